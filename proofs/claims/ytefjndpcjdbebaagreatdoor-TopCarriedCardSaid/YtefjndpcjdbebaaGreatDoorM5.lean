/- A part of the proof: see the last text. -/
import Derived.Test.YtefjndpcjdbebaaGreatDoorM4
set_option linter.unusedVariables false
set_option linter.unusedSimpArgs false
open Array (eq_empty_of_size_eq_zero)
open Bool (false_eq_true not_eq_true' or_eq_true)
open Int (lt_irrefl tdiv tmod toNat toNat_natCast)
open List (all_cons all_eq_true append_assoc append_nil cons_append drop dropWhile_cons drop_drop drop_eq_getElem_cons drop_zero eq_nil_of_length_eq_zero foldl_cons getD_eq_getElem?_getD getElem?_append_right getElem?_cons_zero getElem?_drop getElem?_eq_getElem getElem?_eq_none getElem?_take getElem_mem getElem_of_mem length length_append length_cons length_drop length_map length_nil length_pos_iff length_take map_append map_cons map_map map_nil mem_cons mem_cons_of_mem mem_cons_self mem_of_getElem? mem_singleton nil_append replicate singleton_append take take_length take_of_length_le)
open Nat (le_refl le_trans min_def reduceAdd reduceEqDiff sub_zero zero_add zero_le)
open Option (getD_none isSome_none isSome_some map_none map_some some_or)
set_option maxRecDepth 100000
namespace Ab
open Go Go.Proofs
theorem e59 (n:Nat) (a0:Int) (a1:Int) (a2:Int) (a3:Int) (a4:Int) (a5:Int) (a6:Int) (a7:Int) (a8:Int) (a9:Int) (a10:Bool) (a11:ByteArray) (a12:Int) (a13:Int) (a14:Int) (a15:Int) (a16:Int) (a17:Int) (a18:Int):AB C (n+1) 59 [tI a0,tI a1,tI a2,tI a3,tI a4,tI a5,tI a6,tI a7,tI a8,tI a9,.bool a10,.str a11,tI a12,tI a13,tI a14,tI a15,tI a16,tI a17,tI a18]=
 Option.bind (AB C n 60 [tI a0,tI a1,tI a2,tI a3,tI a4,tI a5,tI a6,tI a7,tI a8,tI a9,.bool a10,.str a11,tI a12,tI a13,tI a14,tI a15,tI a16,tI a17,tI a18]) fun y19=>
 cnd (length y19=1) (cnd (okI y19 0) (some [.bool ((gI y19 0) != 0)]) none) none:=by kernel_rfl
noncomputable def J60_1 (n:Nat) (a1:Int) (a2:Int) (a3:Int) (a4:Int) (a5:Int) (a6:Int) (a7:Int) (a8:Int) (a9:Int) (a10:Bool) (a11:ByteArray) (a0:Int) (a17:Int) (p26:List AV×Heap):Option (List Tree):=
 cnd (vB p26 0=true) (some [tI 2]) (cnd ((!(((((((a1==0)&&(((((a2==0)&&(a3==0))&&(a4==0))&&(a5==0))&&(a6==0)))&&(a7==0)) &&
 (a8==0))&&(a9==0))&&(a10==false))&&(a11==(ByteArray.mk #[]))))=true) (some [tI 1]) (cnd ((a0==2)=true) (cnd ((a17 != 0)=true) (some [tI 1])
 (some [tI 0])) (some [tI 0])))
noncomputable def J60_2 (n:Nat) (a1:Int) (a2:Int) (a3:Int) (a4:Int) (a5:Int) (a6:Int) (a7:Int) (a8:Int) (a9:Int) (a10:Bool) (a11:ByteArray) (a12:Int) (a13:Int) (a14:Int) (a15:Int) (a16:Int) (a17:Int) (a0:Int) (p21:List AV×Heap):Option (List Tree):=
 cnd (vB p21 0=true) (Option.bind (AB C n 99 [tI a1,tI a2,tI a3,tI a4,tI a5,tI a6,tI a7,tI a8,tI a9,.bool a10,.str a11]) fun y23=>cnd (length y23=1) (cnd
 (okI y23 0) (cnd (((gI y23 0) != 0)=true) (some [tI (gI y23 0)]) (cnd ((!(((((a12==0)&&(a13==0))&&(a14==0))&&(a15==0))&&(a16==0)))=true) (some
 [tI 1]) (cnd ((a17 != 0)=true) (some [tI 1]) (some [tI 0])))) none) none) (join (fun (p26:List AV×Heap)=>J60_1 n a1 a2 a3 a4 a5 a6 a7 a8 a9 a10 a11 a0 a17 p26) fun
 (again27:_→Option (List Tree))=>Option.bind (AB C n 100 [tI a12,tI a13,tI a14,tI a15,tI a16]) fun y28=>cnd (length y28=1) (cnd (okB y28 0) (cnd ((!(gB y28 0))=true)
 (again27 ([.t (.bool true)],[])) (cnd ((a0==4)=true) (Option.bind (AB C n 98 [tI a17,tI 0,tI 1152921504606846976]) fun y29=>cnd (length y29=1)
 (cnd (okB y29 0) (again27 ([.t (.bool (!(gB y29 0)))],[])) none) none) (again27 ([.t (.bool false)],[])))) none) none)
theorem e60 (n:Nat) (a0:Int) (a1:Int) (a2:Int) (a3:Int) (a4:Int) (a5:Int) (a6:Int) (a7:Int) (a8:Int) (a9:Int) (a10:Bool) (a11:ByteArray) (a12:Int) (a13:Int) (a14:Int) (a15:Int) (a16:Int) (a17:Int) (a18:Int):AB C (n+1) 60 [tI a0,tI a1,tI a2,tI a3,tI a4,tI a5,tI a6,tI a7,tI a8,tI a9,.bool a10,.str a11,tI a12,tI a13,tI a14,tI a15,tI a16,tI a17,tI a18]=
 Option.bind (AB C n 98 [tI a0,tI 1,tI 4]) fun y19=>cnd (length y19=1) (cnd (okB y19 0) (cnd ((!(gB y19 0))=true) (some [tI 8]) (Option.bind (AB C n
 98 [tI a18,tI 0,tI 1099511627776]) fun y20=>cnd (length y20=1) (cnd (okB y20 0) (cnd ((!(gB y20 0))=true) (some [tI 2]) (join (fun (p21:List AV×Heap)=>
 J60_2 n a1 a2 a3 a4 a5 a6 a7 a8 a9 a10 a11 a12 a13 a14 a15 a16 a17 a0 p21) fun (again22:_→Option (List Tree))=>cnd ((a0==1)=true) (again22 ([.t (.bool true)],[])) (again22
 ([.t (.bool (a0==3))],[])))) none) none)) none) none:=by kernel_rfl
theorem e62 (n:Nat) (a0:Int):AB C (n+1) 62 [tI a0]=
 cnd (decide (a0≥(0:Int))=true) (some [.bool (decide (a0≤1099511627776))]) (some [.bool false]):=by kernel_rfl
theorem e63 (n:Nat) (a0:Int) (a1:Int):AB C (n+1) 63 [tI a0,tI a1]=
 cnd (a1=0) none (some [.bool ((tmod (w64 (tdiv a0 a1)) (2:Int))==1)]):=by kernel_rfl
theorem e64 (n:Nat) (a0:Int) (a1:Int) (a2:ByteArray):AB C (n+1) 64 [tI a0,tI a1,.str a2]=
 cnd (decide (a0<1)=true) (some [tI 8]) (cnd (decide (a0>255)=true) (some [tI 8]) (cnd (decide (a1<0)=true) (some [tI 2]) (cnd (decide (a1>15)=
 true) (some [tI 2]) (cnd (decide (((ByteArray.size a2:Nat):Int)>1024)=true) (some [tI 4]) (some [tI 0]))))):=by kernel_rfl
noncomputable def J69_2 (n:Nat) (a4:Int) (a3:Int) (p16:List AV×Heap):Option (List Tree):=
 cnd (vB p16 0=true) (some [tI 0]) (Option.bind (AB C n 71 [tI a4,tI 1,tI 4096]) fun y20=>cnd (length y20=1) (cnd (okB y20 0) (cnd ((!(gB y20 0))=true)
 (some [tI 2]) (Option.bind (AB C n 71 [tI a3,tI 0,tI (w64 (a4-(1:Int)))]) fun y21=>cnd (length y21=1) (cnd (okB y21 0) (cnd ((!(gB y21 0))=true) (some [tI
 (2:Int)]) (some [tI 0])) none) none)) none) none)
theorem e69 (n:Nat) (a0:Int) (a1:Int) (a2:Int) (a3:Int) (a4:Int):AB C (n+1) 69 [tI a0,tI a1,tI a2,tI a3,tI a4]=
 Option.bind (AB C n 71 [tI a0,tI 0,tI 15]) fun y7=>cnd (length y7=1) (cnd (okB y7 0) (cnd ((!(gB y7 0))=true) (some [tI 2]) (Option.bind (AB C n
 71 [tI a1,tI 0,tI 1099511627776]) fun y8=>cnd (length y8=1) (cnd (okB y8 0) (cnd ((!(gB y8 0))=true) (some [tI 2]) (Option.bind (AB C n 71 [tI a2,
 tI 0,tI 1099511627776]) fun y9=>cnd (length y9=1) (cnd (okB y9 0) (cnd ((!(gB y9 0))=true) (some [tI 2]) (join (fun (p16:List AV×Heap)=>J69_2 n a4 a3 p16) fun
 (again17:_→Option (List Tree))=>cnd ((a3==0)=true) (again17 ([.t (.bool (a4==0))],[])) (again17 ([.t (.bool false)],[])))) none) none)) none) none)) none) none:=by kernel_rfl
theorem e70 (n:Nat) (a0:Int) (a1:Int):AB C (n+1) 70 [tI a0,tI a1]=
 cnd ((a0==1)=true) (cnd (decide (a1<0)=true) (some [tI 2]) (cnd (decide (a1≥(16:Int))=true) (some [tI 2]) (some [tI 0]))) (cnd ((a0==2)=true) (cnd
 (decide (a1<0)=true) (some [tI 2]) (cnd (decide (a1≥(8:Int))=true) (some [tI 2]) (some [tI 0]))) (some [tI 8])):=by kernel_rfl
theorem e71 (n:Nat) (a0:Int) (a1:Int) (a2:Int):AB C (n+1) 71 [tI a0,tI a1,tI a2]=
 cnd (decide (a0≥a1)=true) (some [.bool (decide (a0≤a2))]) (some [.bool false]):=by kernel_rfl
theorem e72 (n:Nat) (a0:Int) (a1:Int) (a2:Int) (a3:Int) (a4:Int) (a5:Int) (a6:Int) (a7:Int) (a8:Int) (a9:Int) (a10:List (List Tree)) (a11:ByteArray):AB C (n+1) 72 [tI a0,tI a1,tI a2,tI a3,tI a4,tI a5,tI a6,tI a7,tI a8,tI a9,.sl 3 a10,.str a11]=
 Option.bind (AB C n 71 [tI a9,tI 0,tI 127]) fun y14=>cnd (length y14=1) (cnd (okB y14 0) (cnd ((!(gB y14 0))=true) (some [tI 1]) (cnd (((Dg IntKind.i64
 a9 (4:Int)) != 0)=true) (cnd (((Dg IntKind.i64 a9 (64:Int)) != 0)=true) (some [tI 1]) (cnd (decide (a4>0)=true) (cnd (((Dg IntKind.i64 a9 (2:Int)) != 0)=
 true) (some [tI 1]) (some [tI 0])) (some [tI 0]))) (cnd (decide (a4>0)=true) (cnd (((Dg IntKind.i64 a9 (2:Int)) != 0)=true) (some [tI 1]) (some [tI
 (0:Int)])) (some [tI 0])))) none) none:=by kernel_rfl
noncomputable def PY (n:Nat) (a0:List (List Tree)) (p5:List AV×Heap) (again6:(List AV×Heap)→Option (List Tree)):Option (List Tree):=
 cnd (decide (vI p5 0<((length a0:Nat):Int))=true) (cnd (3=3∧(0:Int)≤vI p5 0) (Option.bind a0[toNat (vI p5 0)]? fun y7=>cnd (okI y7 0) (cnd (3=3∧(0:Int)
 ≤w64 ((vI p5 0)-(1:Int))) (Option.bind a0[toNat (w64 ((vI p5 0)-(1:Int)))]? fun y8=>cnd (okI y8 0) (cnd (decide (gI y7 0≤gI y8 0)=true) (some [tI 9]) (again6 ([.t (tI (w64 ((vI
 p5 0)+1)))],[]))) none) none) none) none) (some [tI 0])
noncomputable def Rm (n:Nat) (a0:List (List Tree)) (p1:List AV×Heap) (again2:(List AV×Heap)→Option (List Tree)):Option (List Tree):=
 cnd (decide (vI p1 0<((length a0:Nat):Int))=true) (cnd (3=3∧(0:Int)≤vI p1 0) (Option.bind a0[toNat (vI p1 0)]? fun y3=>cnd (okI y3 0) (cnd (okI y3 1) (cnd (okS y3 2)
 (Option.bind (AB C n 127 [tI (gI y3 0),tI (gI y3 1),.str (gS y3 2)]) fun y4=>cnd (length y4=1) (cnd (okI y4 0) (cnd (((gI y4 0) != 0)=true) (some [tI (gI y4 0)])
 (again2 ([.t (tI (w64 ((vI p1 0)+1)))],[]))) none) none) none) none) none) none) (AH (fun (p5:List AV×Heap) (again6:_→Option (List Tree))=>PY n a0 p5 again6) n ([.t (tI
 (1:Int))],[]))
theorem e73 (n:Nat) (a0:List (List Tree)):AB C (n+1) 73 [.sl 3 a0]=
 cnd (decide (((length a0:Nat):Int)>8)=true) (some [tI 4]) (AH (fun (p1:List AV×Heap) (again2:_→Option (List Tree))=>Rm n a0 p1 again2) n ([.t (tI 0)],
 [])):=by kernel_rfl
theorem e74 (n:Nat) (a0:Int) (a1:Int) (a2:Int) (a3:Int) (a4:Int) (a5:Int) (a6:Int) (a7:Int) (a8:Int) (a9:Int) (a10:List (List Tree)) (a11:ByteArray):AB C (n+1) 74 [tI a0,tI a1,tI a2,tI a3,tI a4,tI a5,tI a6,tI a7,tI a8,tI a9,.sl 3 a10,.str a11]=
 cnd (decide (((ByteArray.size a11:Nat):Int)>4096)=true) (some [tI 4]) (cnd (decide (a4>0)=true) (Option.bind (AB C n 71 [tI ((ByteArray.size a11:Nat):Int),tI
 (1:Int),tI (w64 (a4-a3))]) fun y14=>cnd (length y14=1) (cnd (okB y14 0) (cnd ((!(gB y14 0))=true) (some [tI 10]) (some [tI 0])) none) none) (some [tI 0])):=by kernel_rfl
theorem e75 (n:Nat) (a0:Int):AB C (n+1) 75 [tI a0]=
 cnd (decide (a0≥(-1152921504606846976:Int))=true) (some [.bool (decide (a0≤1152921504606846976))]) (some [.bool false]):=by kernel_rfl
theorem e77 (n:Nat) (a0:Int):AB C (n+1) 77 [tI a0]=
 cnd (decide (a0<0)=true) (some [tI (w64 ((w64 ((-2:Int)*a0))-(1:Int)))]) (some [tI (w64 ((2:Int)*a0))]):=by kernel_rfl
theorem e78 (n:Nat) (a0:Int) (a1:Int) (a2:ByteArray):AB C (n+1) 78 [tI a0,tI a1,.str a2]=
 Option.bind (AB C n 127 [tI a0,tI a1,.str a2]) fun y3=>cnd (length y3=1) (cnd (okI y3 0) (cnd (((gI y3 0) != 0)=true) (some [.str (ByteArray.mk #[]),tI (gI
 y3 0)]) (Option.bind (AB C n 32 [tI a0]) fun y4=>cnd (length y4=2) (cnd (okS y4 0) (cnd (okI y4 1) (Option.bind (AB C n 32 [tI a1]) fun y5=>cnd (length y5 =
 2) (cnd (okS y5 0) (cnd (okI y5 1) (Option.bind (AB C n 30 [.str a2]) fun y6=>cnd (length y6=2) (cnd (okS y6 0) (cnd (okI y6 1) (cnd ((ByteArray.size (gS y4 0)) +
 (ByteArray.size (gS y5 0))≤9223372036854775807) (cnd ((ByteArray.size ((gS y4 0)++(gS y5 0)))+(ByteArray.size (gS y6 0))≤9223372036854775807) (Option.bind (AB C n 34
 [.str (((gS y4 0)++(gS y5 0))++(gS y6 0))]) fun y7=>cnd (length y7=2) (cnd (okS y7 0) (cnd (okI y7 1) (some [.str (gS y7 0),tI (gI y7 1)]) none) none) none) none) none)
 none) none) none) none) none) none) none) none) none)) none) none:=by kernel_rfl
theorem e79 (n:Nat) (a0:ByteArray):AB C (n+1) 79 [.str a0]=
 Option.bind (AB C n 129 [.str a0]) fun y1=>cnd (length y1=1) (cnd (okI y1 0) (cnd (DU [[.int IntKind.u8 (IntKind.wrap IntKind.u8 (gI y1 0))],[.int IntKind.u8
 (IntKind.wrap IntKind.u8 (Df IntKind.i64 (gI y1 0) (8:Int)))],[.int IntKind.u8 (IntKind.wrap IntKind.u8 (Df IntKind.i64 (gI y1 0) (16:Int)))],[.int IntKind.u8 (IntKind.wrap IntKind.u8
 (Df IntKind.i64 (gI y1 0) (24:Int)))]]=true) (some [.str (bytesOf [[.int IntKind.u8 (IntKind.wrap IntKind.u8 (gI y1 0))],[.int IntKind.u8 (IntKind.wrap IntKind.u8 (Df IntKind.i64
 (gI y1 0) (8:Int)))],[.int IntKind.u8 (IntKind.wrap IntKind.u8 (Df IntKind.i64 (gI y1 0) (16:Int)))],[.int IntKind.u8 (IntKind.wrap IntKind.u8 (Df IntKind.i64 (gI y1 0) (24:Int)))]])])
 none) none) none:=by kernel_rfl
noncomputable def U0 (n:Nat) (a0:List (List Tree)) (p1:List AV×Heap) (again2:(List AV×Heap)→Option (List Tree)):Option (List Tree):=
 cnd (decide (vI p1 0<((length a0:Nat):Int))=true) (cnd (2=2∧(0:Int)≤vI p1 0) (Option.bind a0[toNat (vI p1 0)]? fun y3=>cnd (okI y3 0) (cnd (okI y3 1) (Option.bind
 (AB C n 130 [tI (gI y3 0),tI (gI y3 1)]) fun y4=>cnd (length y4=1) (cnd (okB y4 0) (cnd ((!(gB y4 0))=true) (some [tI 2]) (cnd (decide (vI p1 0>0)=true) (cnd
 (2=2∧(0:Int)≤w64 ((vI p1 0)-(1:Int))) (Option.bind a0[toNat (w64 ((vI p1 0)-(1:Int)))]? fun y7=>cnd (okI y7 1) (cnd (decide (gI y3 0≤gI y7 1)=true) (some [tI 9])
 (again2 ([.t (tI (w64 ((vI p1 0)+1)))],[]))) none) none) (again2 ([.t (tI (w64 ((vI p1 0)+1)))],[])))) none) none) none) none) none) (some [tI 0])
theorem e80 (n:Nat) (a0:List (List Tree)):AB C (n+1) 80 [.sl 2 a0]=
 cnd (decide (((length a0:Nat):Int)>1000)=true) (some [tI 4]) (AH (fun (p1:List AV×Heap) (again2:_→Option (List Tree))=>U0 n a0 p1 again2) n ([.t (tI
 (0:Int))],[])):=by kernel_rfl
noncomputable def J83_1 (n:Nat) (again2:(List AV×Heap)→Option (List Tree)) (p5:List AV×Heap):Option (List Tree):=
 again2 ([.t (tI 0)],[.box [.t (.str (cS p5 0 0)),.t (tI (cI p5 0 1)),.t (tI (cI p5 0 2))]])
noncomputable def J83_2 (n:Nat) (again2:(List AV×Heap)→Option (List Tree)) (p11:List AV×Heap):Option (List Tree):=
 again2 ([.t (tI 0)],[.box [.t (.str (cS p11 0 0)),.t (tI (cI p11 0 1)),.t (tI (cI p11 0 2))]])
noncomputable def J83_3 (n:Nat) (again2:(List AV×Heap)→Option (List Tree)) (p15:List AV×Heap):Option (List Tree):=
 again2 ([.t (tI 0)],[.box [.t (.str (cS p15 0 0)),.t (tI (cI p15 0 1)),.t (tI (cI p15 0 2))]])
noncomputable def J83_4 (n:Nat) (again2:(List AV×Heap)→Option (List Tree)) (p24:List AV×Heap):Option (List Tree):=
 again2 ([.t (tI 0)],[.box [.t (.str (cS p24 0 0)),.t (tI (cI p24 0 1)),.t (tI (cI p24 0 2))]])
noncomputable def J83_5 (n:Nat) (again2:(List AV×Heap)→Option (List Tree)) (p19:List AV×Heap) (p3:List AV×Heap) (p21:List AV×Heap):Option (List Tree):=
 cnd (vB p21 0=true) (join (fun (p24:List AV×Heap)=>J83_4 n again2 p24) fun (again25:_→Option (List Tree))=>cnd (((cI p21 0 2)==0)=true) (again25 ([],[.box [.t (.str
 (cS p21 0 0)),.t (tI (cI p21 0 1)),.t (tI 11)]])) (again25 ([],[.box [.t (.str (cS p21 0 0)),.t (tI (cI p21 0 1)),.t (tI (cI p21 0 2))]]))) (again2 ([.t (tI (vI p19
 0))],[.box [.t (.str (cS p21 0 0)),.t (tI (w64 ((cI p21 0 1)+(vI p3 2)))),.t (tI (cI p21 0 2))]]))
noncomputable def J83_6 (n:Nat) (again2:(List AV×Heap)→Option (List Tree)) (p3:List AV×Heap) (p19:List AV×Heap):Option (List Tree):=
 join (fun (p21:List AV×Heap)=>J83_5 n again2 p19 p3 p21) fun (again22:_→Option (List Tree))=>cnd (decide (vI p3 0<0)=true) (again22 ([.t (.bool true)],[.box [AV.t
 (Tree.str (cS p19 0 0)),.t (tI (cI p19 0 1)),.t (tI (cI p19 0 2))]])) (Option.bind (AB C n 75 [tI (vI p19 0)]) fun y23=>cnd (length y23=1) (cnd (okB y23 0) (again22
 ([.t (.bool (!(gB y23 0)))],[.box [.t (.str (cS p19 0 0)),.t (tI (cI p19 0 1)),.t (tI (cI p19 0 2))]])) none) none)
noncomputable def PX (n:Nat) (again2:(List AV×Heap)→Option (List Tree)) (p3:List AV×Heap) (again4:(List AV×Heap)→Option (List Tree)):Option (List Tree):=
 cnd ((!(vB p3 1))=true) (cnd (((vI p3 2)==9)=true) (join (fun (p5:List AV×Heap)=>J83_1 n again2 p5) fun (again6:_→Option (List Tree))=>cnd (((cI p3 0 2)==0)=true)
 (again6 ([],[.box [.t (.str (cS p3 0 0)),.t (tI (cI p3 0 1)),.t (tI 11)]])) (again6 ([],[.box [.t (.str (cS p3 0 0)),.t (tI (cI p3 0 1)),.t (tI (cI p3 0
 2))]]))) (cnd (((w64 (((ByteArray.size (cS p3 0 0):Nat):Int)-(cI p3 0 1)))==(vI p3 2))=true) (join (fun (p11:List AV×Heap)=>J83_2 n again2 p11) fun (again12:_→Option (List Tree))=>
 cnd (((cI p3 0 2)==0)=true) (again12 ([],[.box [.t (.str (cS p3 0 0)),.t (tI (cI p3 0 1)),.t (tI 12)]])) (again12 ([],[.box [.t (.str (cS p3 0 0)),.t (tI
 (cI p3 0 1)),.t (tI (cI p3 0 2))]]))) (cnd ((0:Int)≤w64 ((cI p3 0 1)+(vI p3 2))∧w64 ((cI p3 0 1)+(vI p3 2))<((ByteArray.size (cS p3 0 0):Nat):Int)) (again4 ([.t (tI (orK IntKind.i64
 (NF IntKind.i64 (vI p3 0) (7:Int)) (w64 (Dg IntKind.u8 (Ax (cS p3 0 0) (toNat (w64 ((cI p3 0 1)+(vI p3 2))))) (127:Int))))),.t (.bool (decide (Ax (cS p3 0 0) (toNat (w64
 ((cI p3 0 1)+(vI p3 2))))<128))),.t (tI (w64 ((vI p3 2)+1)))],[.box [.t (.str (cS p3 0 0)),.t (tI (cI p3 0 1)),.t (tI (cI p3 0 2))]])) none))) (cnd ((0:Int)≤cI
 p3 0 1∧cI p3 0 1<((ByteArray.size (cS p3 0 0):Nat):Int)) (cnd (((Ax (cS p3 0 0) (toNat (cI p3 0 1)))==128)=true) (join (fun (p15:List AV×Heap)=>J83_3 n again2 p15) fun
 (again16:_→Option (List Tree))=>cnd (((cI p3 0 2)==0)=true) (again16 ([],[.box [.t (.str (cS p3 0 0)),.t (tI (cI p3 0 1)),.t (tI 11)]])) (again16 ([],[.box
 [.t (.str (cS p3 0 0)),.t (tI (cI p3 0 1)),.t (tI (cI p3 0 2))]]))) (join (fun (p19:List AV×Heap)=>J83_6 n again2 p3 p19) fun (again20:_→Option (List Tree))=>cnd (((Dg
 IntKind.i64 (vI p3 0) (1:Int))==1)=true) (again20 ([.t (tI (w64 ((w64 ((0:Int)-(Df IntKind.i64 (vI p3 0) (1:Int))))-(1:Int))))],[.box [.t (.str (cS p3 0 0)),.t (tI (cI
 p3 0 1)),.t (tI (cI p3 0 2))]])) (again20 ([.t (tI (Df IntKind.i64 (vI p3 0) (1:Int)))],[.box [.t (.str (cS p3 0 0)),.t (tI (cI p3 0 1)),.t (tI (cI p3 0 2))]])))) none)
noncomputable def J83_8 (n:Nat)  (p1:List AV×Heap):Option (List Tree):=
 cnd (((cI p1 0 2) != 0)=true) (some [tI 0,tI 0,tI (cI p1 0 2)]) (some [tI (vI p1 0),tI (cI p1 0 1),tI 0])
theorem e83 (n:Nat) (a0:ByteArray):AB C (n+1) 83 [.str a0]=
 join (fun (p1:List AV×Heap)=>J83_8 n p1) fun (again2:_→Option (List Tree))=>AH (fun (p3:List AV×Heap) (again4:_→Option (List Tree))=>PX n again2 p3 again4) n ([.t (tI
 (0:Int)),.t (.bool false),.t (tI 0)],[.box [.t (.str a0),.t (tI 0),.t (tI 0)]]):=by kernel_rfl
noncomputable def J84_1 (n:Nat) (again4:(List AV×Heap)→Option (List Tree)) (p7:List AV×Heap):Option (List Tree):=
 again4 ([.t (tI 0)],[.box [.t (.str (cS p7 0 0)),.t (tI (cI p7 0 1)),.t (tI (cI p7 0 2))]])
noncomputable def J84_2 (n:Nat) (again4:(List AV×Heap)→Option (List Tree)) (p13:List AV×Heap):Option (List Tree):=
 again4 ([.t (tI 0)],[.box [.t (.str (cS p13 0 0)),.t (tI (cI p13 0 1)),.t (tI (cI p13 0 2))]])
noncomputable def J84_3 (n:Nat) (again4:(List AV×Heap)→Option (List Tree)) (p17:List AV×Heap):Option (List Tree):=
 again4 ([.t (tI 0)],[.box [.t (.str (cS p17 0 0)),.t (tI (cI p17 0 1)),.t (tI (cI p17 0 2))]])
noncomputable def J84_4 (n:Nat) (again4:(List AV×Heap)→Option (List Tree)) (p26:List AV×Heap):Option (List Tree):=
 again4 ([.t (tI 0)],[.box [.t (.str (cS p26 0 0)),.t (tI (cI p26 0 1)),.t (tI (cI p26 0 2))]])
noncomputable def J84_5 (n:Nat) (again4:(List AV×Heap)→Option (List Tree)) (p21:List AV×Heap) (p5:List AV×Heap) (p23:List AV×Heap):Option (List Tree):=
 cnd (vB p23 0=true) (join (fun (p26:List AV×Heap)=>J84_4 n again4 p26) fun (again27:_→Option (List Tree))=>cnd (((cI p23 0 2)==0)=true) (again27 ([],[.box [.t (.str
 (cS p23 0 0)),.t (tI (cI p23 0 1)),.t (tI 11)]])) (again27 ([],[.box [.t (.str (cS p23 0 0)),.t (tI (cI p23 0 1)),.t (tI (cI p23 0 2))]]))) (again4 ([.t (tI (vI p21
 0))],[.box [.t (.str (cS p23 0 0)),.t (tI (w64 ((cI p23 0 1)+(vI p5 2)))),.t (tI (cI p23 0 2))]]))
noncomputable def J84_6 (n:Nat) (again4:(List AV×Heap)→Option (List Tree)) (p5:List AV×Heap) (p21:List AV×Heap):Option (List Tree):=
 join (fun (p23:List AV×Heap)=>J84_5 n again4 p21 p5 p23) fun (again24:_→Option (List Tree))=>cnd (decide (vI p5 0<0)=true) (again24 ([.t (.bool true)],[.box [AV.t
 (Tree.str (cS p21 0 0)),.t (tI (cI p21 0 1)),.t (tI (cI p21 0 2))]])) (Option.bind (AB C n 75 [tI (vI p21 0)]) fun y25=>cnd (length y25=1) (cnd (okB y25 0) (again24
 ([.t (.bool (!(gB y25 0)))],[.box [.t (.str (cS p21 0 0)),.t (tI (cI p21 0 1)),.t (tI (cI p21 0 2))]])) none) none)
noncomputable def PW (n:Nat) (again4:(List AV×Heap)→Option (List Tree)) (p5:List AV×Heap) (again6:(List AV×Heap)→Option (List Tree)):Option (List Tree):=
 cnd ((!(vB p5 1))=true) (cnd (((vI p5 2)==9)=true) (join (fun (p7:List AV×Heap)=>J84_1 n again4 p7) fun (again8:_→Option (List Tree))=>cnd (((cI p5 0 2)==0)=true)
 (again8 ([],[.box [.t (.str (cS p5 0 0)),.t (tI (cI p5 0 1)),.t (tI 11)]])) (again8 ([],[.box [.t (.str (cS p5 0 0)),.t (tI (cI p5 0 1)),.t (tI (cI p5 0
 2))]]))) (cnd (((w64 (((ByteArray.size (cS p5 0 0):Nat):Int)-(cI p5 0 1)))==(vI p5 2))=true) (join (fun (p13:List AV×Heap)=>J84_2 n again4 p13) fun (again14:_→Option (List Tree))=>
 cnd (((cI p5 0 2)==0)=true) (again14 ([],[.box [.t (.str (cS p5 0 0)),.t (tI (cI p5 0 1)),.t (tI 12)]])) (again14 ([],[.box [.t (.str (cS p5 0 0)),.t (tI
 (cI p5 0 1)),.t (tI (cI p5 0 2))]]))) (cnd ((0:Int)≤w64 ((cI p5 0 1)+(vI p5 2))∧w64 ((cI p5 0 1)+(vI p5 2))<((ByteArray.size (cS p5 0 0):Nat):Int)) (again6 ([.t (tI (orK IntKind.i64
 (NF IntKind.i64 (vI p5 0) (7:Int)) (w64 (Dg IntKind.u8 (Ax (cS p5 0 0) (toNat (w64 ((cI p5 0 1)+(vI p5 2))))) (127:Int))))),.t (.bool (decide (Ax (cS p5 0 0) (toNat (w64
 ((cI p5 0 1)+(vI p5 2))))<128))),.t (tI (w64 ((vI p5 2)+1)))],[.box [.t (.str (cS p5 0 0)),.t (tI (cI p5 0 1)),.t (tI (cI p5 0 2))]])) none))) (cnd ((0:Int)≤cI
 p5 0 1∧cI p5 0 1<((ByteArray.size (cS p5 0 0):Nat):Int)) (cnd (((Ax (cS p5 0 0) (toNat (cI p5 0 1)))==128)=true) (join (fun (p17:List AV×Heap)=>J84_3 n again4 p17) fun
 (again18:_→Option (List Tree))=>cnd (((cI p5 0 2)==0)=true) (again18 ([],[.box [.t (.str (cS p5 0 0)),.t (tI (cI p5 0 1)),.t (tI 11)]])) (again18 ([],[.box
 [.t (.str (cS p5 0 0)),.t (tI (cI p5 0 1)),.t (tI (cI p5 0 2))]]))) (join (fun (p21:List AV×Heap)=>J84_6 n again4 p5 p21) fun (again22:_→Option (List Tree))=>cnd (((Dg
 IntKind.i64 (vI p5 0) (1:Int))==1)=true) (again22 ([.t (tI (w64 ((w64 ((0:Int)-(Df IntKind.i64 (vI p5 0) (1:Int))))-(1:Int))))],[.box [.t (.str (cS p5 0 0)),.t (tI (cI
 p5 0 1)),.t (tI (cI p5 0 2))]])) (again22 ([.t (tI (Df IntKind.i64 (vI p5 0) (1:Int)))],[.box [.t (.str (cS p5 0 0)),.t (tI (cI p5 0 1)),.t (tI (cI p5 0 2))]])))) none)
noncomputable def J84_8 (n:Nat) (again2:(List AV×Heap)→Option (List Tree)) (p3:List AV×Heap):Option (List Tree):=
 cnd (decide (vI p3 0<0)=true) none (cnd (decide (vI p3 0>65536)=true) none (again2 ([.t (tI (vI p3 0))],[.box [.t (.str (cS p3 0 0)),.t (tI (cI p3 0 1)),.t (tI
 (cI p3 0 2))]])))
noncomputable def J84_9 (n:Nat) (a0:ByteArray) (p1:List AV×Heap):Option (List Tree):=
 cnd (decide (w64 (((ByteArray.size (cS p1 0 0):Nat):Int)-(cI p1 0 1))<vI p1 0)=true) none (cnd (((cI p1 0 2) != 0)=true) none (cnd ((0:Int)≤w64 ((cI p1 0 1)+(vI p1 0))∧w64 ((cI p1
 0 1)+(vI p1 0))≤((ByteArray.size a0:Nat):Int)) (cnd ((0:Int)≤cI p1 0 1∧cI p1 0 1≤((toNat (w64 ((cI p1 0 1)+(vI p1 0))):Nat):Int)) (some [.str (ByteArray.extract a0 (toNat (cI
 p1 0 1)) (toNat (w64 ((cI p1 0 1)+(vI p1 0))))),tI (w64 ((cI p1 0 1)+(vI p1 0))),tI 0]) none) none))
theorem e84 (n:Nat) (a0:ByteArray):AB C (n+1) 84 [.str a0]=
 join (fun (p1:List AV×Heap)=>J84_9 n a0 p1) fun (again2:_→Option (List Tree))=>join (fun (p3:List AV×Heap)=>J84_8 n again2 p3) fun (again4:_→Option (List Tree))=>AH (fun
 (p5:List AV×Heap) (again6:_→Option (List Tree))=>PW n again4 p5 again6) n ([.t (tI 0),.t (.bool false),.t (tI 0)],[.box [.t (.str a0),.t (tI
 (0:Int)),.t (tI 0)]]):=by kernel_rfl
noncomputable def J85_1 (n:Nat) (again4:(List AV×Heap)→Option (List Tree)) (p7:List AV×Heap):Option (List Tree):=
 again4 ([.t (tI 0)],[.box [.t (.str (cS p7 0 0)),.t (tI (cI p7 0 1)),.t (tI (cI p7 0 2))]])
noncomputable def J85_2 (n:Nat) (again4:(List AV×Heap)→Option (List Tree)) (p13:List AV×Heap):Option (List Tree):=
 again4 ([.t (tI 0)],[.box [.t (.str (cS p13 0 0)),.t (tI (cI p13 0 1)),.t (tI (cI p13 0 2))]])
noncomputable def J85_3 (n:Nat) (again4:(List AV×Heap)→Option (List Tree)) (p17:List AV×Heap):Option (List Tree):=
 again4 ([.t (tI 0)],[.box [.t (.str (cS p17 0 0)),.t (tI (cI p17 0 1)),.t (tI (cI p17 0 2))]])
noncomputable def J85_4 (n:Nat) (again4:(List AV×Heap)→Option (List Tree)) (p26:List AV×Heap):Option (List Tree):=
 again4 ([.t (tI 0)],[.box [.t (.str (cS p26 0 0)),.t (tI (cI p26 0 1)),.t (tI (cI p26 0 2))]])
noncomputable def J85_5 (n:Nat) (again4:(List AV×Heap)→Option (List Tree)) (p21:List AV×Heap) (p5:List AV×Heap) (p23:List AV×Heap):Option (List Tree):=
 cnd (vB p23 0=true) (join (fun (p26:List AV×Heap)=>J85_4 n again4 p26) fun (again27:_→Option (List Tree))=>cnd (((cI p23 0 2)==0)=true) (again27 ([],[.box [.t (.str
 (cS p23 0 0)),.t (tI (cI p23 0 1)),.t (tI 11)]])) (again27 ([],[.box [.t (.str (cS p23 0 0)),.t (tI (cI p23 0 1)),.t (tI (cI p23 0 2))]]))) (again4 ([.t (tI (vI p21
 0))],[.box [.t (.str (cS p23 0 0)),.t (tI (w64 ((cI p23 0 1)+(vI p5 2)))),.t (tI (cI p23 0 2))]]))
noncomputable def J85_6 (n:Nat) (again4:(List AV×Heap)→Option (List Tree)) (p5:List AV×Heap) (p21:List AV×Heap):Option (List Tree):=
 join (fun (p23:List AV×Heap)=>J85_5 n again4 p21 p5 p23) fun (again24:_→Option (List Tree))=>cnd (decide (vI p5 0<0)=true) (again24 ([.t (.bool true)],[.box [AV.t
 (Tree.str (cS p21 0 0)),.t (tI (cI p21 0 1)),.t (tI (cI p21 0 2))]])) (Option.bind (AB C n 75 [tI (vI p21 0)]) fun y25=>cnd (length y25=1) (cnd (okB y25 0) (again24
 ([.t (.bool (!(gB y25 0)))],[.box [.t (.str (cS p21 0 0)),.t (tI (cI p21 0 1)),.t (tI (cI p21 0 2))]])) none) none)
noncomputable def PV (n:Nat) (again4:(List AV×Heap)→Option (List Tree)) (p5:List AV×Heap) (again6:(List AV×Heap)→Option (List Tree)):Option (List Tree):=
 cnd ((!(vB p5 1))=true) (cnd (((vI p5 2)==9)=true) (join (fun (p7:List AV×Heap)=>J85_1 n again4 p7) fun (again8:_→Option (List Tree))=>cnd (((cI p5 0 2)==0)=true)
 (again8 ([],[.box [.t (.str (cS p5 0 0)),.t (tI (cI p5 0 1)),.t (tI 11)]])) (again8 ([],[.box [.t (.str (cS p5 0 0)),.t (tI (cI p5 0 1)),.t (tI (cI p5 0
 2))]]))) (cnd (((w64 (((ByteArray.size (cS p5 0 0):Nat):Int)-(cI p5 0 1)))==(vI p5 2))=true) (join (fun (p13:List AV×Heap)=>J85_2 n again4 p13) fun (again14:_→Option (List Tree))=>
 cnd (((cI p5 0 2)==0)=true) (again14 ([],[.box [.t (.str (cS p5 0 0)),.t (tI (cI p5 0 1)),.t (tI 12)]])) (again14 ([],[.box [.t (.str (cS p5 0 0)),.t (tI
 (cI p5 0 1)),.t (tI (cI p5 0 2))]]))) (cnd ((0:Int)≤w64 ((cI p5 0 1)+(vI p5 2))∧w64 ((cI p5 0 1)+(vI p5 2))<((ByteArray.size (cS p5 0 0):Nat):Int)) (again6 ([.t (tI (orK IntKind.i64
 (NF IntKind.i64 (vI p5 0) (7:Int)) (w64 (Dg IntKind.u8 (Ax (cS p5 0 0) (toNat (w64 ((cI p5 0 1)+(vI p5 2))))) (127:Int))))),.t (.bool (decide (Ax (cS p5 0 0) (toNat (w64
 ((cI p5 0 1)+(vI p5 2))))<128))),.t (tI (w64 ((vI p5 2)+1)))],[.box [.t (.str (cS p5 0 0)),.t (tI (cI p5 0 1)),.t (tI (cI p5 0 2))]])) none))) (cnd ((0:Int)≤cI
 p5 0 1∧cI p5 0 1<((ByteArray.size (cS p5 0 0):Nat):Int)) (cnd (((Ax (cS p5 0 0) (toNat (cI p5 0 1)))==128)=true) (join (fun (p17:List AV×Heap)=>J85_3 n again4 p17) fun
 (again18:_→Option (List Tree))=>cnd (((cI p5 0 2)==0)=true) (again18 ([],[.box [.t (.str (cS p5 0 0)),.t (tI (cI p5 0 1)),.t (tI 11)]])) (again18 ([],[.box
 [.t (.str (cS p5 0 0)),.t (tI (cI p5 0 1)),.t (tI (cI p5 0 2))]]))) (join (fun (p21:List AV×Heap)=>J85_6 n again4 p5 p21) fun (again22:_→Option (List Tree))=>cnd (((Dg
 IntKind.i64 (vI p5 0) (1:Int))==1)=true) (again22 ([.t (tI (w64 ((w64 ((0:Int)-(Df IntKind.i64 (vI p5 0) (1:Int))))-(1:Int))))],[.box [.t (.str (cS p5 0 0)),.t (tI (cI
 p5 0 1)),.t (tI (cI p5 0 2))]])) (again22 ([.t (tI (Df IntKind.i64 (vI p5 0) (1:Int)))],[.box [.t (.str (cS p5 0 0)),.t (tI (cI p5 0 1)),.t (tI (cI p5 0 2))]])))) none)
noncomputable def J85_8 (n:Nat) (again2:(List AV×Heap)→Option (List Tree)) (p3:List AV×Heap):Option (List Tree):=
 cnd (decide (vI p3 0<0)=true) none (cnd (decide (vI p3 0>65536)=true) none (again2 ([.t (tI (vI p3 0))],[.box [.t (.str (cS p3 0 0)),.t (tI (cI p3 0 1)),.t (tI
 (cI p3 0 2))]])))
noncomputable def J85_9 (n:Nat) (again37:(List AV×Heap)→Option (List Tree)) (p40:List AV×Heap):Option (List Tree):=
 again37 ([.t (tI 0)],[.box [.t (.str (cS p40 0 0)),.t (tI (cI p40 0 1)),.t (tI (cI p40 0 2))],.row false (AF p40 1) 1 (oEs p40 1)])
noncomputable def J85_10 (n:Nat) (again37:(List AV×Heap)→Option (List Tree)) (p46:List AV×Heap):Option (List Tree):=
 again37 ([.t (tI 0)],[.box [.t (.str (cS p46 0 0)),.t (tI (cI p46 0 1)),.t (tI (cI p46 0 2))],.row false (AF p46 1) 1 (oEs p46 1)])
noncomputable def J85_11 (n:Nat) (again37:(List AV×Heap)→Option (List Tree)) (p50:List AV×Heap):Option (List Tree):=
 again37 ([.t (tI 0)],[.box [.t (.str (cS p50 0 0)),.t (tI (cI p50 0 1)),.t (tI (cI p50 0 2))],.row false (AF p50 1) 1 (oEs p50 1)])
noncomputable def J85_12 (n:Nat) (again37:(List AV×Heap)→Option (List Tree)) (p59:List AV×Heap):Option (List Tree):=
 again37 ([.t (tI 0)],[.box [.t (.str (cS p59 0 0)),.t (tI (cI p59 0 1)),.t (tI (cI p59 0 2))],.row false (AF p59 1) 1 (oEs p59 1)])
noncomputable def J85_13 (n:Nat) (again37:(List AV×Heap)→Option (List Tree)) (p54:List AV×Heap) (p38:List AV×Heap) (p56:List AV×Heap):Option (List Tree):=
 cnd (vB p56 0=true) (join (fun (p59:List AV×Heap)=>J85_12 n again37 p59) fun (again60:_→Option (List Tree))=>cnd (((cI p56 0 2)==0)=true) (again60 ([],[.box [AV.t
 (Tree.str (cS p56 0 0)),.t (tI (cI p56 0 1)),.t (tI 11)],.row false (AF p56 1) 1 (oEs p56 1)])) (again60 ([],[.box [.t (.str (cS p56 0 0)),.t (tI (cI p56 0 1)),
 .t (tI (cI p56 0 2))],.row false (AF p56 1) 1 (oEs p56 1)]))) (again37 ([.t (tI (vI p54 0))],[.box [.t (.str (cS p56 0 0)),.t (tI (w64 ((cI p56 0 1)+(vI p38 2)))),
 .t (tI (cI p56 0 2))],.row false (AF p56 1) 1 (oEs p56 1)]))
noncomputable def J85_14 (n:Nat) (again37:(List AV×Heap)→Option (List Tree)) (p38:List AV×Heap) (p54:List AV×Heap):Option (List Tree):=
 join (fun (p56:List AV×Heap)=>J85_13 n again37 p54 p38 p56) fun (again57:_→Option (List Tree))=>cnd (decide (vI p38 0<0)=true) (again57 ([.t (.bool true)],[.box [AV.t
 (Tree.str (cS p54 0 0)),.t (tI (cI p54 0 1)),.t (tI (cI p54 0 2))],.row false (AF p54 1) 1 (oEs p54 1)])) (Option.bind (AB C n 75 [tI (vI p54 0)]) fun y58=>cnd
 (length y58=1) (cnd (okB y58 0) (again57 ([.t (.bool (!(gB y58 0)))],[.box [.t (.str (cS p54 0 0)),.t (tI (cI p54 0 1)),.t (tI (cI p54 0 2))],.row false (AF
 p54 1) 1 (oEs p54 1)])) none) none)
noncomputable def L85_15 (n:Nat) (again37:(List AV×Heap)→Option (List Tree)) (p38:List AV×Heap) (again39:(List AV×Heap)→Option (List Tree)):Option (List Tree):=
 cnd ((!(vB p38 1))=true) (cnd (((vI p38 2)==9)=true) (join (fun (p40:List AV×Heap)=>J85_9 n again37 p40) fun (again41:_→Option (List Tree))=>cnd (((cI p38 0 2)==0)=
 true) (again41 ([],[.box [.t (.str (cS p38 0 0)),.t (tI (cI p38 0 1)),.t (tI 11)],.row false (AF p38 1) 1 (oEs p38 1)])) (again41 ([],[.box [.t (.str (cS
 p38 0 0)),.t (tI (cI p38 0 1)),.t (tI (cI p38 0 2))],.row false (AF p38 1) 1 (oEs p38 1)]))) (cnd (((w64 (((ByteArray.size (cS p38 0 0):Nat):Int)-(cI p38 0 1)))==(vI p38 2))=
 true) (join (fun (p46:List AV×Heap)=>J85_10 n again37 p46) fun (again47:_→Option (List Tree))=>cnd (((cI p38 0 2)==0)=true) (again47 ([],[.box [.t (.str (cS p38 0 0)),
 .t (tI (cI p38 0 1)),.t (tI 12)],.row false (AF p38 1) 1 (oEs p38 1)])) (again47 ([],[.box [.t (.str (cS p38 0 0)),.t (tI (cI p38 0 1)),.t (tI (cI p38 0 2))],
 .row false (AF p38 1) 1 (oEs p38 1)]))) (cnd ((0:Int)≤w64 ((cI p38 0 1)+(vI p38 2))∧w64 ((cI p38 0 1)+(vI p38 2))<((ByteArray.size (cS p38 0 0):Nat):Int)) (again39 ([.t (tI
 (orK IntKind.i64 (NF IntKind.i64 (vI p38 0) (7:Int)) (w64 (Dg IntKind.u8 (Ax (cS p38 0 0) (toNat (w64 ((cI p38 0 1)+(vI p38 2))))) (127:Int))))),.t (.bool (decide (Ax (cS p38
 0 0) (toNat (w64 ((cI p38 0 1)+(vI p38 2))))<128))),.t (tI (w64 ((vI p38 2)+1)))],[.box [.t (.str (cS p38 0 0)),.t (tI (cI p38 0 1)),.t (tI (cI p38 0 2))],
 .row false (AF p38 1) 1 (oEs p38 1)])) none))) (cnd ((0:Int)≤cI p38 0 1∧cI p38 0 1<((ByteArray.size (cS p38 0 0):Nat):Int)) (cnd (((Ax (cS p38 0 0) (toNat (cI p38 0 1)))==
 (128:Int))=true) (join (fun (p50:List AV×Heap)=>J85_11 n again37 p50) fun (again51:_→Option (List Tree))=>cnd (((cI p38 0 2)==0)=true) (again51 ([],[.box [.t (.str
 (cS p38 0 0)),.t (tI (cI p38 0 1)),.t (tI 11)],.row false (AF p38 1) 1 (oEs p38 1)])) (again51 ([],[.box [.t (.str (cS p38 0 0)),.t (tI (cI p38 0 1)),.t (tI
 (cI p38 0 2))],.row false (AF p38 1) 1 (oEs p38 1)]))) (join (fun (p54:List AV×Heap)=>J85_14 n again37 p38 p54) fun (again55:_→Option (List Tree))=>cnd (((Dg IntKind.i64 (vI
 p38 0) (1:Int))==1)=true) (again55 ([.t (tI (w64 ((w64 ((0:Int)-(Df IntKind.i64 (vI p38 0) (1:Int))))-(1:Int))))],[.box [.t (.str (cS p38 0 0)),.t (tI (cI p38 0 1)),
 .t (tI (cI p38 0 2))],.row false (AF p38 1) 1 (oEs p38 1)])) (again55 ([.t (tI (Df IntKind.i64 (vI p38 0) (1:Int)))],[.box [.t (.str (cS p38 0 0)),.t (tI (cI p38 0
 1)),.t (tI (cI p38 0 2))],.row false (AF p38 1) 1 (oEs p38 1)])))) none)
noncomputable def J85_16 (n:Nat) (p32:List AV×Heap) (again33:(List AV×Heap)→Option (List Tree)) (p36:List AV×Heap):Option (List Tree):=
 cnd (AF p36 1=Ar p32 0∧(1=1∨1=0)∧(A1 p32 0)+(AR p32 0)≤length (oEs p36 1)∧(AR p32 0)+1≤1073741824) (again33 ([.sref 1
 ((Ar p32 0)+1) 0 ((AR p32 0)+1),.t (tI (w64 ((vI p32 1)+1)))],[.box [.t (.str (cS p36 0 0)),.t (tI (cI p36 0 1)),.t (tI (cI p36 0 2))],.row
 false ((Ar p32 0)+1) 1 ((take (AR p32 0) (drop (A1 p32 0) (oEs p36 1)))++[[tI (vI p36 0)]])])) none
noncomputable def VD (n:Nat) (p32:List AV×Heap) (again33:(List AV×Heap)→Option (List Tree)) (p34:List AV×Heap):Option (List Tree):=
 cnd (vB p34 0=true) (join (fun (p36:List AV×Heap)=>J85_16 n p32 again33 p36) fun (again37:_→Option (List Tree))=>cnd (((cI p34 0 2) != 0)=true) (again37 ([.t (tI 0)],
 [.box [.t (.str (cS p34 0 0)),.t (tI (cI p34 0 1)),.t (tI (cI p34 0 2))],.row false (AF p34 1) 1 (oEs p34 1)])) (AH (fun (p38:List AV×Heap) (again39:_→Option
 (List Tree))=>L85_15 n again37 p38 again39) n ([.t (tI 0),.t (.bool false),.t (tI 0)],[.box [.t (.str (cS p34 0 0)),.t (tI (cI p34 0 1)),.t (tI (cI p34 0
 2))],.row false (AF p34 1) 1 (oEs p34 1)]))) (cnd (((cI p34 0 2) != 0)=true) none (cnd ((false=true∨false=false)∧AF p34 1=Ar p32 0∧(1=1∨1 =
 0)) (some [.sl 1 (take (AR p32 0) (drop (A1 p32 0) (oEs p34 1))),tI (cI p34 0 1),tI 0]) none))
noncomputable def Q0 (n:Nat) (p1:List AV×Heap) (p32:List AV×Heap) (again33:(List AV×Heap)→Option (List Tree)):Option (List Tree):=
 join (fun (p34:List AV×Heap)=>VD n p32 again33 p34) fun (again35:_→Option (List Tree))=>cnd (decide (vI p32 1<vI p1 0)=true) (again35 ([.t (.bool ((cI p32 0 2)==0))],
 [.box [.t (.str (cS p32 0 0)),.t (tI (cI p32 0 1)),.t (tI (cI p32 0 2))],.row false (AF p32 1) 1 (oEs p32 1)])) (again35 ([.t (.bool false)],[.box [AV.t
 (Tree.str (cS p32 0 0)),.t (tI (cI p32 0 1)),.t (tI (cI p32 0 2))],.row false (AF p32 1) 1 (oEs p32 1)]))
noncomputable def VC (n:Nat)  (p1:List AV×Heap):Option (List Tree):=
 AH (fun (p32:List AV×Heap) (again33:_→Option (List Tree))=>Q0 n p1 p32 again33) n ([.sref 1 0 0 0,.t (tI 0)],[.box [.t (.str (cS p1 0
 0)),.t (tI (cI p1 0 1)),.t (tI (cI p1 0 2))],.row false 0 1 []])
theorem e85 (n:Nat) (a0:ByteArray):AB C (n+1) 85 [.str a0]=
 join (fun (p1:List AV×Heap)=>VC n p1) fun (again2:_→Option (List Tree))=>join (fun (p3:List AV×Heap)=>J85_8 n again2 p3) fun (again4:_→Option (List Tree))=>AH (fun
 (p5:List AV×Heap) (again6:_→Option (List Tree))=>PV n again4 p5 again6) n ([.t (tI 0),.t (.bool false),.t (tI 0)],[.box [.t (.str a0),.t (tI
 (0:Int)),.t (tI 0)]]):=by kernel_rfl
noncomputable def J86_1 (n:Nat) (a4:Int) (a5:Int) (a6:Int) (a7:Int) (a8:Int) (a9:Bool) (a10:ByteArray) (a11:List (List Tree)) (a0:Int) (a1:Int) (a2:List (List Tree)) (a3:ByteArray) (again18:(List AV×Heap)→Option (List Tree)) (again20:(List AV×Heap)→Option (List Tree)) (p19:List AV×Heap) (p22:List AV×Heap):Option (List Tree):=
 cnd (vB p22 0=true) (DM (.box [.func (Fn.func 141) [] [.eptr 8 [tI a4,tI a5,tI a6,tI a7,tI a8,.bool a9,.str a10,.sl 2 a11] 0,.eptr 4 [tI a0,
 tI a1,.sl 2 a2,.str a3] 0],.func (Fn.func 142) [] [.eptr 4 [tI a0,tI a1,.sl 2 a2,.str a3] 0,.eptr 8 [tI a4,tI a5,tI a6,tI a7,tI a8,
 Tree.bool a9,.str a10,.sl 2 a11] 0],.func (Fn.func 143) [] [.eptr 4 [tI a0,tI a1,.sl 2 a2,.str a3] 0,.eptr 8 [tI a4,tI a5,tI a6,tI
 a7,tI a8,.bool a9,.str a10,.sl 2 a11] 0],.func (Fn.func 144) [] [.eptr 4 [tI a0,tI a1,.sl 2 a2,.str a3] 0,.eptr 8 [tI a4,tI a5,
 tI a6,tI a7,tI a8,.bool a9,.str a10,.sl 2 a11] 0]]) (.box [.func (Fn.func 141) [] [.eptr 8 [tI a4,tI a5,tI a6,tI a7,tI a8,.bool a9,.str a10,
 Tree.sl 2 a11] 0,.eptr 4 [tI a0,tI a1,.sl 2 a2,.str a3] 0],.func (Fn.func 142) [] [.eptr 4 [tI a0,tI a1,.sl 2 a2,.str a3]
 0,.eptr 8 [tI a4,tI a5,tI a6,tI a7,tI a8,.bool a9,.str a10,.sl 2 a11] 0],.func (Fn.func 143) [] [.eptr 4 [tI a0,tI a1,.sl 2 a2,
 Tree.str a3] 0,.eptr 8 [tI a4,tI a5,tI a6,tI a7,tI a8,.bool a9,.str a10,.sl 2 a11] 0],.func (Fn.func 144) [] [.eptr 4 [tI a0,tI a1,.sl
 2 a2,.str a3] 0,.eptr 8 [tI a4,tI a5,tI a6,tI a7,tI a8,.bool a9,.str a10,.sl 2 a11] 0]]) (again18 ([.t (.bool false)],[.box []])))
 (DM (.box [.func (Fn.func 141) [] [.eptr 8 [tI a4,tI a5,tI a6,tI a7,tI a8,.bool a9,.str a10,.sl 2 a11] 0,.eptr 4 [tI a0,tI a1,.sl 2
 a2,.str a3] 0],.func (Fn.func 142) [] [.eptr 4 [tI a0,tI a1,.sl 2 a2,.str a3] 0,.eptr 8 [tI a4,tI a5,tI a6,tI a7,tI a8,.bool a9,.str
 a10,.sl 2 a11] 0],.func (Fn.func 143) [] [.eptr 4 [tI a0,tI a1,.sl 2 a2,.str a3] 0,.eptr 8 [tI a4,tI a5,tI a6,tI a7,tI a8,.bool a9,
 Tree.str a10,.sl 2 a11] 0],.func (Fn.func 144) [] [.eptr 4 [tI a0,tI a1,.sl 2 a2,.str a3] 0,.eptr 8 [tI a4,tI a5,tI a6,tI a7,tI a8,
 Tree.bool a9,.str a10,.sl 2 a11] 0]]) (.box [.func (Fn.func 141) [] [.eptr 8 [tI a4,tI a5,tI a6,tI a7,tI a8,.bool a9,.str a10,.sl 2 a11]
 0,.eptr 4 [tI a0,tI a1,.sl 2 a2,.str a3] 0],.func (Fn.func 142) [] [.eptr 4 [tI a0,tI a1,.sl 2 a2,.str a3] 0,.eptr 8
 [tI a4,tI a5,tI a6,tI a7,tI a8,.bool a9,.str a10,.sl 2 a11] 0],.func (Fn.func 143) [] [.eptr 4 [tI a0,tI a1,.sl 2 a2,.str a3] 0,
 .eptr 8 [tI a4,tI a5,tI a6,tI a7,tI a8,.bool a9,.str a10,.sl 2 a11] 0],.func (Fn.func 144) [] [.eptr 4 [tI a0,tI a1,.sl 2 a2,.str a3]
 0,.eptr 8 [tI a4,tI a5,tI a6,tI a7,tI a8,.bool a9,.str a10,.sl 2 a11] 0]]) (again20 ([.t (tI (w64 ((vI p19 0)+1)))],[.box []])))
noncomputable def Rl (n:Nat) (a2:List (List Tree)) (a4:Int) (a5:Int) (a6:Int) (a7:Int) (a8:Int) (a9:Bool) (a10:ByteArray) (a11:List (List Tree)) (a0:Int) (a1:Int) (a3:ByteArray) (again18:(List AV×Heap)→Option (List Tree)) (p19:List AV×Heap) (again20:(List AV×Heap)→Option (List Tree)):Option (List Tree):=
 cnd (decide (vI p19 0<((length a2:Nat):Int))=true) (cnd (2=2∧(0:Int)≤vI p19 0) (Option.bind a2[toNat (vI p19 0)]? fun y21=>cnd (okI y21 0) (cnd (okI y21 1) (join (fun
 (p22:List AV×Heap)=>J86_1 n a4 a5 a6 a7 a8 a9 a10 a11 a0 a1 a2 a3 again18 again20 p19 p22) fun (again23:_→Option (List Tree))=>cnd (decide ((if a7>gI y21 0 then a7 else gI y21 0)<(if
 w64 (a7+((ByteArray.size a10:Nat):Int))<gI y21 1 then w64 (a7+((ByteArray.size a10:Nat):Int)) else gI y21 1))=true) (cnd ((0:Int)≤(if w64 (a7+((ByteArray.size a10:Nat):Int))<gI y21 1
 then w64 (a7+((ByteArray.size a10:Nat):Int)) else gI y21 1)∧(if w64 (a7+((ByteArray.size a10:Nat):Int))<gI y21 1 then w64 (a7+((ByteArray.size a10:Nat):Int)) else gI y21 1)≤
 ((ByteArray.size a3:Nat):Int)) (cnd ((0:Int)≤(if a7>gI y21 0 then a7 else gI y21 0)∧(if a7>gI y21 0 then a7 else gI y21 0)≤((toNat (if w64 (a7+((ByteArray.size a10:Nat):Int))<gI y21
 1 then w64 (a7+((ByteArray.size a10:Nat):Int)) else gI y21 1):Nat):Int)) (cnd ((0:Int)≤w64 ((if w64 (a7+((ByteArray.size a10:Nat):Int))<gI y21 1 then w64 (a7+((ByteArray.size a10:Nat):Int))
 else gI y21 1)-a7)∧w64 ((if w64 (a7+((ByteArray.size a10:Nat):Int))<gI y21 1 then w64 (a7+((ByteArray.size a10:Nat):Int)) else gI y21 1)-a7)≤((ByteArray.size a10:Nat):Int)) (cnd ((0:Int)
 ≤w64 ((if a7>gI y21 0 then a7 else gI y21 0)-a7)∧w64 ((if a7>gI y21 0 then a7 else gI y21 0)-a7)≤((toNat (w64 ((if w64 (a7+((ByteArray.size a10:Nat):Int))<gI y21 1 then w64 (a7 +
 ((ByteArray.size a10:Nat):Int)) else gI y21 1)-a7)):Nat):Int)) (DM (.box [.func (Fn.func 141) [] [.eptr 8 [tI a4,tI a5,tI a6,tI a7,tI a8,.bool a9,.str a10,.sl
 2 a11] 0,.eptr 4 [tI a0,tI a1,.sl 2 a2,.str a3] 0],.func (Fn.func 142) [] [.eptr 4 [tI a0,tI a1,.sl 2 a2,.str a3] 0,
 .eptr 8 [tI a4,tI a5,tI a6,tI a7,tI a8,.bool a9,.str a10,.sl 2 a11] 0],.func (Fn.func 143) [] [.eptr 4 [tI a0,tI a1,.sl 2 a2,.str a3]
 0,.eptr 8 [tI a4,tI a5,tI a6,tI a7,tI a8,.bool a9,.str a10,.sl 2 a11] 0],.func (Fn.func 144) [] [.eptr 4 [tI a0,tI a1,.sl 2 a2,
 Tree.str a3] 0,.eptr 8 [tI a4,tI a5,tI a6,tI a7,tI a8,.bool a9,.str a10,.sl 2 a11] 0]]) (.box [.func (Fn.func 141) [] [.eptr 8 [tI a4,tI
 a5,tI a6,tI a7,tI a8,.bool a9,.str a10,.sl 2 a11] 0,.eptr 4 [tI a0,tI a1,.sl 2 a2,.str a3] 0],.func (Fn.func 142) [] [.eptr 4
 [tI a0,tI a1,.sl 2 a2,.str a3] 0,.eptr 8 [tI a4,tI a5,tI a6,tI a7,tI a8,.bool a9,.str a10,.sl 2 a11] 0],.func (Fn.func 143) []
 [.eptr 4 [tI a0,tI a1,.sl 2 a2,.str a3] 0,.eptr 8 [tI a4,tI a5,tI a6,tI a7,tI a8,.bool a9,.str a10,.sl 2 a11] 0],.func
 (Fn.func 144) [] [.eptr 4 [tI a0,tI a1,.sl 2 a2,.str a3] 0,.eptr 8 [tI a4,tI a5,tI a6,tI a7,tI a8,.bool a9,.str a10,.sl 2 a11]
 0]]) (again23 ([.t (.bool ((ByteArray.extract a3 (toNat (if a7>gI y21 0 then a7 else gI y21 0)) (toNat (if w64 (a7+((ByteArray.size a10:Nat):Int))<gI y21 1 then w64 (a7 +
 ((ByteArray.size a10:Nat):Int)) else gI y21 1))) != (ByteArray.extract a10 (toNat (w64 ((if a7>gI y21 0 then a7 else gI y21 0)-a7))) (toNat (w64 ((if w64 (a7+((ByteArray.size
 a10:Nat):Int))<gI y21 1 then w64 (a7+((ByteArray.size a10:Nat):Int)) else gI y21 1)-a7))))))],[.box [],.box []]))) none) none) none) none) (DM (.box [.func (Fn.func 141) []
 [.eptr 8 [tI a4,tI a5,tI a6,tI a7,tI a8,.bool a9,.str a10,.sl 2 a11] 0,.eptr 4 [tI a0,tI a1,.sl 2 a2,.str a3] 0],.func
 (Fn.func 142) [] [.eptr 4 [tI a0,tI a1,.sl 2 a2,.str a3] 0,.eptr 8 [tI a4,tI a5,tI a6,tI a7,tI a8,.bool a9,.str a10,.sl 2 a11]
 0],.func (Fn.func 143) [] [.eptr 4 [tI a0,tI a1,.sl 2 a2,.str a3] 0,.eptr 8 [tI a4,tI a5,tI a6,tI a7,tI a8,.bool a9,.str a10,.sl
 2 a11] 0],.func (Fn.func 144) [] [.eptr 4 [tI a0,tI a1,.sl 2 a2,.str a3] 0,.eptr 8 [tI a4,tI a5,tI a6,tI a7,tI a8,.bool a9,.str
 a10,.sl 2 a11] 0]]) (.box [.func (Fn.func 141) [] [.eptr 8 [tI a4,tI a5,tI a6,tI a7,tI a8,.bool a9,.str a10,.sl 2 a11] 0,.eptr 4
 [tI a0,tI a1,.sl 2 a2,.str a3] 0],.func (Fn.func 142) [] [.eptr 4 [tI a0,tI a1,.sl 2 a2,.str a3] 0,.eptr 8 [tI a4,tI a5,tI a6,tI
 a7,tI a8,.bool a9,.str a10,.sl 2 a11] 0],.func (Fn.func 143) [] [.eptr 4 [tI a0,tI a1,.sl 2 a2,.str a3] 0,.eptr 8 [tI a4,tI a5,
 tI a6,tI a7,tI a8,.bool a9,.str a10,.sl 2 a11] 0],.func (Fn.func 144) [] [.eptr 4 [tI a0,tI a1,.sl 2 a2,.str a3] 0,.eptr 8 [tI
 a4,tI a5,tI a6,tI a7,tI a8,.bool a9,.str a10,.sl 2 a11] 0]]) (again23 ([.t (.bool false)],[.box [],.box []])))) none) none) none) (DM (.box
 [.func (Fn.func 141) [] [.eptr 8 [tI a4,tI a5,tI a6,tI a7,tI a8,.bool a9,.str a10,.sl 2 a11] 0,.eptr 4 [tI a0,tI a1,.sl 2 a2,.str a3]
 0],.func (Fn.func 142) [] [.eptr 4 [tI a0,tI a1,.sl 2 a2,.str a3] 0,.eptr 8 [tI a4,tI a5,tI a6,tI a7,tI a8,.bool a9,.str a10,.sl
 2 a11] 0],.func (Fn.func 143) [] [.eptr 4 [tI a0,tI a1,.sl 2 a2,.str a3] 0,.eptr 8 [tI a4,tI a5,tI a6,tI a7,tI a8,.bool a9,.str
 a10,.sl 2 a11] 0],.func (Fn.func 144) [] [.eptr 4 [tI a0,tI a1,.sl 2 a2,.str a3] 0,.eptr 8 [tI a4,tI a5,tI a6,tI a7,tI a8,.bool a9,
 Tree.str a10,.sl 2 a11] 0]]) (.box [.func (Fn.func 141) [] [.eptr 8 [tI a4,tI a5,tI a6,tI a7,tI a8,.bool a9,.str a10,.sl 2 a11] 0,.eptr
 4 [tI a0,tI a1,.sl 2 a2,.str a3] 0],.func (Fn.func 142) [] [.eptr 4 [tI a0,tI a1,.sl 2 a2,.str a3] 0,.eptr 8 [tI a4,tI a5,tI
 a6,tI a7,tI a8,.bool a9,.str a10,.sl 2 a11] 0],.func (Fn.func 143) [] [.eptr 4 [tI a0,tI a1,.sl 2 a2,.str a3] 0,.eptr 8 [tI a4,
 tI a5,tI a6,tI a7,tI a8,.bool a9,.str a10,.sl 2 a11] 0],.func (Fn.func 144) [] [.eptr 4 [tI a0,tI a1,.sl 2 a2,.str a3] 0,.eptr
 8 [tI a4,tI a5,tI a6,tI a7,tI a8,.bool a9,.str a10,.sl 2 a11] 0]]) (again18 ([.t (.bool true)],[.box []])))
noncomputable def J86_3 (n:Nat) (a4:Int) (a5:Int) (a6:Int) (a7:Int) (a8:Int) (a9:Bool) (a10:ByteArray) (a11:List (List Tree)) (a0:Int) (a1:Int) (a2:List (List Tree)) (a3:ByteArray) (again13:(List AV×Heap)→Option (List Tree)) (p12:List AV×Heap) (p17:List AV×Heap):Option (List Tree):=
 cnd ((!(vB p17 0))=true) (some [.bool false]) (DM (.box [.func (Fn.func 141) [] [.eptr 8 [tI a4,tI a5,tI a6,tI a7,tI a8,.bool a9,.str a10,.sl 2 a11]
 0,.eptr 4 [tI a0,tI a1,.sl 2 a2,.str a3] 0],.func (Fn.func 142) [] [.eptr 4 [tI a0,tI a1,.sl 2 a2,.str a3] 0,.eptr 8
 [tI a4,tI a5,tI a6,tI a7,tI a8,.bool a9,.str a10,.sl 2 a11] 0],.func (Fn.func 143) [] [.eptr 4 [tI a0,tI a1,.sl 2 a2,.str a3] 0,
 .eptr 8 [tI a4,tI a5,tI a6,tI a7,tI a8,.bool a9,.str a10,.sl 2 a11] 0],.func (Fn.func 144) [] [.eptr 4 [tI a0,tI a1,.sl 2 a2,.str a3]
 0,.eptr 8 [tI a4,tI a5,tI a6,tI a7,tI a8,.bool a9,.str a10,.sl 2 a11] 0]]) (.box [.func (Fn.func 141) [] [.eptr 8 [tI a4,tI a5,tI a6,tI
 a7,tI a8,.bool a9,.str a10,.sl 2 a11] 0,.eptr 4 [tI a0,tI a1,.sl 2 a2,.str a3] 0],.func (Fn.func 142) [] [.eptr 4 [tI a0,tI a1,
 Tree.sl 2 a2,.str a3] 0,.eptr 8 [tI a4,tI a5,tI a6,tI a7,tI a8,.bool a9,.str a10,.sl 2 a11] 0],.func (Fn.func 143) [] [.eptr 4 [tI
 a0,tI a1,.sl 2 a2,.str a3] 0,.eptr 8 [tI a4,tI a5,tI a6,tI a7,tI a8,.bool a9,.str a10,.sl 2 a11] 0],.func (Fn.func 144) [] [.eptr
 4 [tI a0,tI a1,.sl 2 a2,.str a3] 0,.eptr 8 [tI a4,tI a5,tI a6,tI a7,tI a8,.bool a9,.str a10,.sl 2 a11] 0]]) (again13 ([.t (tI
 (w64 ((vI p12 0)+1)))],[.box []])))
noncomputable def J86_4 (n:Nat) (a4:Int) (a5:Int) (a6:Int) (a7:Int) (a8:Int) (a9:Bool) (a10:ByteArray) (a11:List (List Tree)) (a0:Int) (a1:Int) (a2:List (List Tree)) (a3:ByteArray) (again25:(List AV×Heap)→Option (List Tree)) (p26:List AV×Heap):Option (List Tree):=
 DM (.box [.func (Fn.func 141) [] [.eptr 8 [tI a4,tI a5,tI a6,tI a7,tI a8,.bool a9,.str a10,.sl 2 a11] 0,.eptr 4 [tI a0,tI a1,.sl 2
 a2,.str a3] 0],.func (Fn.func 142) [] [.eptr 4 [tI a0,tI a1,.sl 2 a2,.str a3] 0,.eptr 8 [tI a4,tI a5,tI a6,tI a7,tI a8,.bool a9,.str
 a10,.sl 2 a11] 0],.func (Fn.func 143) [] [.eptr 4 [tI a0,tI a1,.sl 2 a2,.str a3] 0,.eptr 8 [tI a4,tI a5,tI a6,tI a7,tI a8,.bool a9,
 Tree.str a10,.sl 2 a11] 0],.func (Fn.func 144) [] [.eptr 4 [tI a0,tI a1,.sl 2 a2,.str a3] 0,.eptr 8 [tI a4,tI a5,tI a6,tI a7,tI a8,
 Tree.bool a9,.str a10,.sl 2 a11] 0]]) (.box [.func (Fn.func 141) [] [.eptr 8 [tI a4,tI a5,tI a6,tI a7,tI a8,.bool a9,.str a10,.sl 2 a11]
 0,.eptr 4 [tI a0,tI a1,.sl 2 a2,.str a3] 0],.func (Fn.func 142) [] [.eptr 4 [tI a0,tI a1,.sl 2 a2,.str a3] 0,.eptr 8
 [tI a4,tI a5,tI a6,tI a7,tI a8,.bool a9,.str a10,.sl 2 a11] 0],.func (Fn.func 143) [] [.eptr 4 [tI a0,tI a1,.sl 2 a2,.str a3] 0,
 .eptr 8 [tI a4,tI a5,tI a6,tI a7,tI a8,.bool a9,.str a10,.sl 2 a11] 0],.func (Fn.func 144) [] [.eptr 4 [tI a0,tI a1,.sl 2 a2,.str a3]
 0,.eptr 8 [tI a4,tI a5,tI a6,tI a7,tI a8,.bool a9,.str a10,.sl 2 a11] 0]]) (again25 ([.t (.bool (vB p26 0))],[.box []]))
noncomputable def J86_5 (n:Nat) (a4:Int) (a5:Int) (a6:Int) (a7:Int) (a8:Int) (a9:Bool) (a10:ByteArray) (a11:List (List Tree)) (a0:Int) (a1:Int) (a2:List (List Tree)) (a3:ByteArray) (again13:(List AV×Heap)→Option (List Tree)) (p12:List AV×Heap) (p24:List AV×Heap):Option (List Tree):=
 cnd ((!(vB p24 0))=true) (some [.bool false]) (DM (.box [.func (Fn.func 141) [] [.eptr 8 [tI a4,tI a5,tI a6,tI a7,tI a8,.bool a9,.str a10,.sl 2 a11]
 0,.eptr 4 [tI a0,tI a1,.sl 2 a2,.str a3] 0],.func (Fn.func 142) [] [.eptr 4 [tI a0,tI a1,.sl 2 a2,.str a3] 0,.eptr 8
 [tI a4,tI a5,tI a6,tI a7,tI a8,.bool a9,.str a10,.sl 2 a11] 0],.func (Fn.func 143) [] [.eptr 4 [tI a0,tI a1,.sl 2 a2,.str a3] 0,
 .eptr 8 [tI a4,tI a5,tI a6,tI a7,tI a8,.bool a9,.str a10,.sl 2 a11] 0],.func (Fn.func 144) [] [.eptr 4 [tI a0,tI a1,.sl 2 a2,.str a3]
 0,.eptr 8 [tI a4,tI a5,tI a6,tI a7,tI a8,.bool a9,.str a10,.sl 2 a11] 0]]) (.box [.func (Fn.func 141) [] [.eptr 8 [tI a4,tI a5,tI a6,tI
 a7,tI a8,.bool a9,.str a10,.sl 2 a11] 0,.eptr 4 [tI a0,tI a1,.sl 2 a2,.str a3] 0],.func (Fn.func 142) [] [.eptr 4 [tI a0,tI a1,
 Tree.sl 2 a2,.str a3] 0,.eptr 8 [tI a4,tI a5,tI a6,tI a7,tI a8,.bool a9,.str a10,.sl 2 a11] 0],.func (Fn.func 143) [] [.eptr 4 [tI
 a0,tI a1,.sl 2 a2,.str a3] 0,.eptr 8 [tI a4,tI a5,tI a6,tI a7,tI a8,.bool a9,.str a10,.sl 2 a11] 0],.func (Fn.func 144) [] [.eptr
 4 [tI a0,tI a1,.sl 2 a2,.str a3] 0,.eptr 8 [tI a4,tI a5,tI a6,tI a7,tI a8,.bool a9,.str a10,.sl 2 a11] 0]]) (again13 ([.t (tI
 (w64 ((vI p12 0)+1)))],[.box []])))
noncomputable def J86_6 (n:Nat) (a4:Int) (a5:Int) (a6:Int) (a7:Int) (a8:Int) (a9:Bool) (a10:ByteArray) (a11:List (List Tree)) (a0:Int) (a1:Int) (a2:List (List Tree)) (a3:ByteArray) (again29:(List AV×Heap)→Option (List Tree)) (p30:List AV×Heap):Option (List Tree):=
 DM (.box [.func (Fn.func 141) [] [.eptr 8 [tI a4,tI a5,tI a6,tI a7,tI a8,.bool a9,.str a10,.sl 2 a11] 0,.eptr 4 [tI a0,tI a1,.sl 2
 a2,.str a3] 0],.func (Fn.func 142) [] [.eptr 4 [tI a0,tI a1,.sl 2 a2,.str a3] 0,.eptr 8 [tI a4,tI a5,tI a6,tI a7,tI a8,.bool a9,.str
 a10,.sl 2 a11] 0],.func (Fn.func 143) [] [.eptr 4 [tI a0,tI a1,.sl 2 a2,.str a3] 0,.eptr 8 [tI a4,tI a5,tI a6,tI a7,tI a8,.bool a9,
 Tree.str a10,.sl 2 a11] 0],.func (Fn.func 144) [] [.eptr 4 [tI a0,tI a1,.sl 2 a2,.str a3] 0,.eptr 8 [tI a4,tI a5,tI a6,tI a7,tI a8,
 Tree.bool a9,.str a10,.sl 2 a11] 0]]) (.box [.func (Fn.func 141) [] [.eptr 8 [tI a4,tI a5,tI a6,tI a7,tI a8,.bool a9,.str a10,.sl 2 a11]
 0,.eptr 4 [tI a0,tI a1,.sl 2 a2,.str a3] 0],.func (Fn.func 142) [] [.eptr 4 [tI a0,tI a1,.sl 2 a2,.str a3] 0,.eptr 8
 [tI a4,tI a5,tI a6,tI a7,tI a8,.bool a9,.str a10,.sl 2 a11] 0],.func (Fn.func 143) [] [.eptr 4 [tI a0,tI a1,.sl 2 a2,.str a3] 0,
 .eptr 8 [tI a4,tI a5,tI a6,tI a7,tI a8,.bool a9,.str a10,.sl 2 a11] 0],.func (Fn.func 144) [] [.eptr 4 [tI a0,tI a1,.sl 2 a2,.str a3]
 0,.eptr 8 [tI a4,tI a5,tI a6,tI a7,tI a8,.bool a9,.str a10,.sl 2 a11] 0]]) (again29 ([.t (.bool (vB p30 0))],[.box []]))
noncomputable def J86_7 (n:Nat) (a4:Int) (a5:Int) (a6:Int) (a7:Int) (a8:Int) (a9:Bool) (a10:ByteArray) (a11:List (List Tree)) (a0:Int) (a1:Int) (a2:List (List Tree)) (a3:ByteArray) (again13:(List AV×Heap)→Option (List Tree)) (p12:List AV×Heap) (p28:List AV×Heap):Option (List Tree):=
 cnd ((!(vB p28 0))=true) (some [.bool false]) (DM (.box [.func (Fn.func 141) [] [.eptr 8 [tI a4,tI a5,tI a6,tI a7,tI a8,.bool a9,.str a10,.sl 2 a11]
 0,.eptr 4 [tI a0,tI a1,.sl 2 a2,.str a3] 0],.func (Fn.func 142) [] [.eptr 4 [tI a0,tI a1,.sl 2 a2,.str a3] 0,.eptr 8
 [tI a4,tI a5,tI a6,tI a7,tI a8,.bool a9,.str a10,.sl 2 a11] 0],.func (Fn.func 143) [] [.eptr 4 [tI a0,tI a1,.sl 2 a2,.str a3] 0,
 .eptr 8 [tI a4,tI a5,tI a6,tI a7,tI a8,.bool a9,.str a10,.sl 2 a11] 0],.func (Fn.func 144) [] [.eptr 4 [tI a0,tI a1,.sl 2 a2,.str a3]
 0,.eptr 8 [tI a4,tI a5,tI a6,tI a7,tI a8,.bool a9,.str a10,.sl 2 a11] 0]]) (.box [.func (Fn.func 141) [] [.eptr 8 [tI a4,tI a5,tI a6,tI
 a7,tI a8,.bool a9,.str a10,.sl 2 a11] 0,.eptr 4 [tI a0,tI a1,.sl 2 a2,.str a3] 0],.func (Fn.func 142) [] [.eptr 4 [tI a0,tI a1,
 Tree.sl 2 a2,.str a3] 0,.eptr 8 [tI a4,tI a5,tI a6,tI a7,tI a8,.bool a9,.str a10,.sl 2 a11] 0],.func (Fn.func 143) [] [.eptr 4 [tI
 a0,tI a1,.sl 2 a2,.str a3] 0,.eptr 8 [tI a4,tI a5,tI a6,tI a7,tI a8,.bool a9,.str a10,.sl 2 a11] 0],.func (Fn.func 144) [] [.eptr
 4 [tI a0,tI a1,.sl 2 a2,.str a3] 0,.eptr 8 [tI a4,tI a5,tI a6,tI a7,tI a8,.bool a9,.str a10,.sl 2 a11] 0]]) (again13 ([.t (tI
 (w64 ((vI p12 0)+1)))],[.box []])))
noncomputable def M4 (n:Nat) (a0:Int) (a1:Int) (a2:List (List Tree)) (a3:ByteArray) (a4:Int) (a5:Int) (a6:Int) (a7:Int) (a8:Int) (a9:Bool) (a10:ByteArray) (a11:List (List Tree)) (p12:List AV×Heap) (again13:(List AV×Heap)→Option (List Tree)):Option (List Tree):=
 cnd (decide (vI p12 0<4)=true) (cnd (1=1∧(0:Int)≤vI p12 0∧vI p12 0<4) (cnd (vI p12 0=((3:Nat):Int)) (Option.bind (AB C n 87 [tI a0,tI a1,.sl
 2 a2,.str a3,tI a4,tI a5,tI a6,tI a7,tI a8,.bool a9,.str a10,.sl 2 a11]) fun y16=>cnd (length y16=2) (cnd (okL 2 y16 0) (cnd (okI y16 1) (DM
 (.box [.func (Fn.func 141) [] [.eptr 8 [tI a4,tI a5,tI a6,tI a7,tI a8,.bool a9,.str a10,.sl 2 a11] 0,.eptr 4 [tI a0,tI a1,.sl 2 a2,
 Tree.str a3] 0],.func (Fn.func 142) [] [.eptr 4 [tI a0,tI a1,.sl 2 a2,.str a3] 0,.eptr 8 [tI a4,tI a5,tI a6,tI a7,tI a8,.bool a9,.str
 a10,.sl 2 a11] 0],.func (Fn.func 143) [] [.eptr 4 [tI a0,tI a1,.sl 2 a2,.str a3] 0,.eptr 8 [tI a4,tI a5,tI a6,tI a7,tI a8,.bool a9,
 Tree.str a10,.sl 2 a11] 0],.func (Fn.func 144) [] [.eptr 4 [tI a0,tI a1,.sl 2 a2,.str a3] 0,.eptr 8 [tI a4,tI a5,tI a6,tI a7,tI a8,
 Tree.bool a9,.str a10,.sl 2 a11] 0]]) (.box [.func (Fn.func 141) [] [.eptr 8 [tI a4,tI a5,tI a6,tI a7,tI a8,.bool a9,.str a10,.sl 2 a11]
 0,.eptr 4 [tI a0,tI a1,.sl 2 a2,.str a3] 0],.func (Fn.func 142) [] [.eptr 4 [tI a0,tI a1,.sl 2 a2,.str a3] 0,.eptr 8
 [tI a4,tI a5,tI a6,tI a7,tI a8,.bool a9,.str a10,.sl 2 a11] 0],.func (Fn.func 143) [] [.eptr 4 [tI a0,tI a1,.sl 2 a2,.str a3] 0,
 .eptr 8 [tI a4,tI a5,tI a6,tI a7,tI a8,.bool a9,.str a10,.sl 2 a11] 0],.func (Fn.func 144) [] [.eptr 4 [tI a0,tI a1,.sl 2 a2,.str a3]
 0,.eptr 8 [tI a4,tI a5,tI a6,tI a7,tI a8,.bool a9,.str a10,.sl 2 a11] 0]]) (cnd ((!((gI y16 1)==0))=true) (some [.bool false]) (DM
 (.box [.func (Fn.func 141) [] [.eptr 8 [tI a4,tI a5,tI a6,tI a7,tI a8,.bool a9,.str a10,.sl 2 a11] 0,.eptr 4 [tI a0,tI a1,.sl 2 a2,
 Tree.str a3] 0],.func (Fn.func 142) [] [.eptr 4 [tI a0,tI a1,.sl 2 a2,.str a3] 0,.eptr 8 [tI a4,tI a5,tI a6,tI a7,tI a8,.bool a9,.str
 a10,.sl 2 a11] 0],.func (Fn.func 143) [] [.eptr 4 [tI a0,tI a1,.sl 2 a2,.str a3] 0,.eptr 8 [tI a4,tI a5,tI a6,tI a7,tI a8,.bool a9,
 Tree.str a10,.sl 2 a11] 0],.func (Fn.func 144) [] [.eptr 4 [tI a0,tI a1,.sl 2 a2,.str a3] 0,.eptr 8 [tI a4,tI a5,tI a6,tI a7,tI a8,
 Tree.bool a9,.str a10,.sl 2 a11] 0]]) (.box [.func (Fn.func 141) [] [.eptr 8 [tI a4,tI a5,tI a6,tI a7,tI a8,.bool a9,.str a10,.sl 2 a11]
 0,.eptr 4 [tI a0,tI a1,.sl 2 a2,.str a3] 0],.func (Fn.func 142) [] [.eptr 4 [tI a0,tI a1,.sl 2 a2,.str a3] 0,.eptr 8
 [tI a4,tI a5,tI a6,tI a7,tI a8,.bool a9,.str a10,.sl 2 a11] 0],.func (Fn.func 143) [] [.eptr 4 [tI a0,tI a1,.sl 2 a2,.str a3] 0,
 .eptr 8 [tI a4,tI a5,tI a6,tI a7,tI a8,.bool a9,.str a10,.sl 2 a11] 0],.func (Fn.func 144) [] [.eptr 4 [tI a0,tI a1,.sl 2 a2,.str a3]
 0,.eptr 8 [tI a4,tI a5,tI a6,tI a7,tI a8,.bool a9,.str a10,.sl 2 a11] 0]]) (again13 ([.t (tI (w64 ((vI p12 0)+1)))],[.box []]))))) none)
 none) none) (cnd (vI p12 0=((2:Nat):Int)) (join (fun (p17:List AV×Heap)=>J86_3 n a4 a5 a6 a7 a8 a9 a10 a11 a0 a1 a2 a3 again13 p12 p17) fun (again18:_→Option (List Tree))=>DM (.box
 [.func (Fn.func 141) [] [.eptr 8 [tI a4,tI a5,tI a6,tI a7,tI a8,.bool a9,.str a10,.sl 2 a11] 0,.eptr 4 [tI a0,tI a1,.sl 2 a2,.str a3]
 0],.func (Fn.func 142) [] [.eptr 4 [tI a0,tI a1,.sl 2 a2,.str a3] 0,.eptr 8 [tI a4,tI a5,tI a6,tI a7,tI a8,.bool a9,.str a10,.sl
 2 a11] 0],.func (Fn.func 143) [] [.eptr 4 [tI a0,tI a1,.sl 2 a2,.str a3] 0,.eptr 8 [tI a4,tI a5,tI a6,tI a7,tI a8,.bool a9,.str
 a10,.sl 2 a11] 0],.func (Fn.func 144) [] [.eptr 4 [tI a0,tI a1,.sl 2 a2,.str a3] 0,.eptr 8 [tI a4,tI a5,tI a6,tI a7,tI a8,.bool a9,
 Tree.str a10,.sl 2 a11] 0]]) (.box [.func (Fn.func 141) [] [.eptr 8 [tI a4,tI a5,tI a6,tI a7,tI a8,.bool a9,.str a10,.sl 2 a11] 0,.eptr
 4 [tI a0,tI a1,.sl 2 a2,.str a3] 0],.func (Fn.func 142) [] [.eptr 4 [tI a0,tI a1,.sl 2 a2,.str a3] 0,.eptr 8 [tI a4,tI a5,tI
 a6,tI a7,tI a8,.bool a9,.str a10,.sl 2 a11] 0],.func (Fn.func 143) [] [.eptr 4 [tI a0,tI a1,.sl 2 a2,.str a3] 0,.eptr 8 [tI a4,
 tI a5,tI a6,tI a7,tI a8,.bool a9,.str a10,.sl 2 a11] 0],.func (Fn.func 144) [] [.eptr 4 [tI a0,tI a1,.sl 2 a2,.str a3] 0,.eptr
 8 [tI a4,tI a5,tI a6,tI a7,tI a8,.bool a9,.str a10,.sl 2 a11] 0]]) (AH (fun (p19:List AV×Heap) (again20:_→Option (List Tree))=>Rl n a2 a4 a5 a6
 a7 a8 a9 a10 a11 a0 a1 a3 again18 p19 again20) n ([.t (tI 0)],[.box []]))) (cnd (vI p12 0=((1:Nat):Int)) (join (fun (p24:List AV×Heap)=>J86_5 n a4 a5 a6 a7 a8 a9 a10 a11 a0 a1 a2
 a3 again13 p12 p24) fun (again25:_→Option (List Tree))=>join (fun (p26:List AV×Heap)=>J86_4 n a4 a5 a6 a7 a8 a9 a10 a11 a0 a1 a2 a3 again25 p26) fun (again27:_→Option (List Tree))=>
 cnd ((a1==(-1))=true) (DM (.box [.func (Fn.func 141) [] [.eptr 8 [tI a4,tI a5,tI a6,tI a7,tI a8,.bool a9,.str a10,.sl 2 a11] 0,.eptr 4
 [tI a0,tI a1,.sl 2 a2,.str a3] 0],.func (Fn.func 142) [] [.eptr 4 [tI a0,tI a1,.sl 2 a2,.str a3] 0,.eptr 8 [tI a4,tI a5,tI a6,tI
 a7,tI a8,.bool a9,.str a10,.sl 2 a11] 0],.func (Fn.func 143) [] [.eptr 4 [tI a0,tI a1,.sl 2 a2,.str a3] 0,.eptr 8 [tI a4,tI a5,
 tI a6,tI a7,tI a8,.bool a9,.str a10,.sl 2 a11] 0],.func (Fn.func 144) [] [.eptr 4 [tI a0,tI a1,.sl 2 a2,.str a3] 0,.eptr 8 [tI
 a4,tI a5,tI a6,tI a7,tI a8,.bool a9,.str a10,.sl 2 a11] 0]]) (.box [.func (Fn.func 141) [] [.eptr 8 [tI a4,tI a5,tI a6,tI a7,tI a8,.bool a9,
 Tree.str a10,.sl 2 a11] 0,.eptr 4 [tI a0,tI a1,.sl 2 a2,.str a3] 0],.func (Fn.func 142) [] [.eptr 4 [tI a0,tI a1,.sl 2 a2,
 Tree.str a3] 0,.eptr 8 [tI a4,tI a5,tI a6,tI a7,tI a8,.bool a9,.str a10,.sl 2 a11] 0],.func (Fn.func 143) [] [.eptr 4 [tI a0,tI a1,.sl
 2 a2,.str a3] 0,.eptr 8 [tI a4,tI a5,tI a6,tI a7,tI a8,.bool a9,.str a10,.sl 2 a11] 0],.func (Fn.func 144) [] [.eptr 4 [tI a0,tI
 a1,.sl 2 a2,.str a3] 0,.eptr 8 [tI a4,tI a5,tI a6,tI a7,tI a8,.bool a9,.str a10,.sl 2 a11] 0]]) (again27 ([.t (.bool true)],
 [.box []]))) (DM (.box [.func (Fn.func 141) [] [.eptr 8 [tI a4,tI a5,tI a6,tI a7,tI a8,.bool a9,.str a10,.sl 2 a11] 0,.eptr 4 [tI a0,tI a1,
 Tree.sl 2 a2,.str a3] 0],.func (Fn.func 142) [] [.eptr 4 [tI a0,tI a1,.sl 2 a2,.str a3] 0,.eptr 8 [tI a4,tI a5,tI a6,tI a7,tI a8,
 Tree.bool a9,.str a10,.sl 2 a11] 0],.func (Fn.func 143) [] [.eptr 4 [tI a0,tI a1,.sl 2 a2,.str a3] 0,.eptr 8 [tI a4,tI a5,tI a6,tI
 a7,tI a8,.bool a9,.str a10,.sl 2 a11] 0],.func (Fn.func 144) [] [.eptr 4 [tI a0,tI a1,.sl 2 a2,.str a3] 0,.eptr 8 [tI a4,tI a5,
 tI a6,tI a7,tI a8,.bool a9,.str a10,.sl 2 a11] 0]]) (.box [.func (Fn.func 141) [] [.eptr 8 [tI a4,tI a5,tI a6,tI a7,tI a8,.bool a9,.str a10,
 Tree.sl 2 a11] 0,.eptr 4 [tI a0,tI a1,.sl 2 a2,.str a3] 0],.func (Fn.func 142) [] [.eptr 4 [tI a0,tI a1,.sl 2 a2,.str a3]
 0,.eptr 8 [tI a4,tI a5,tI a6,tI a7,tI a8,.bool a9,.str a10,.sl 2 a11] 0],.func (Fn.func 143) [] [.eptr 4 [tI a0,tI a1,.sl 2 a2,
 Tree.str a3] 0,.eptr 8 [tI a4,tI a5,tI a6,tI a7,tI a8,.bool a9,.str a10,.sl 2 a11] 0],.func (Fn.func 144) [] [.eptr 4 [tI a0,tI a1,.sl
 2 a2,.str a3] 0,.eptr 8 [tI a4,tI a5,tI a6,tI a7,tI a8,.bool a9,.str a10,.sl 2 a11] 0]]) (again27 ([.t (.bool (a8==a1))],[.box
 []])))) (cnd (vI p12 0=((0:Nat):Int)) (join (fun (p28:List AV×Heap)=>J86_7 n a4 a5 a6 a7 a8 a9 a10 a11 a0 a1 a2 a3 again13 p12 p28) fun (again29:_→Option (List Tree))=>join (fun (p30 :
 List AV×Heap)=>J86_6 n a4 a5 a6 a7 a8 a9 a10 a11 a0 a1 a2 a3 again29 p30) fun (again31:_→Option (List Tree))=>cnd ((a4==1)=true) (DM (.box [.func (Fn.func 141) [] [.eptr
 8 [tI a4,tI a5,tI a6,tI a7,tI a8,.bool a9,.str a10,.sl 2 a11] 0,.eptr 4 [tI a0,tI a1,.sl 2 a2,.str a3] 0],.func (Fn.func 142) []
 [.eptr 4 [tI a0,tI a1,.sl 2 a2,.str a3] 0,.eptr 8 [tI a4,tI a5,tI a6,tI a7,tI a8,.bool a9,.str a10,.sl 2 a11] 0],.func
 (Fn.func 143) [] [.eptr 4 [tI a0,tI a1,.sl 2 a2,.str a3] 0,.eptr 8 [tI a4,tI a5,tI a6,tI a7,tI a8,.bool a9,.str a10,.sl 2 a11]
 0],.func (Fn.func 144) [] [.eptr 4 [tI a0,tI a1,.sl 2 a2,.str a3] 0,.eptr 8 [tI a4,tI a5,tI a6,tI a7,tI a8,.bool a9,.str a10,.sl
 2 a11] 0]]) (.box [.func (Fn.func 141) [] [.eptr 8 [tI a4,tI a5,tI a6,tI a7,tI a8,.bool a9,.str a10,.sl 2 a11] 0,.eptr 4 [tI a0,tI
 a1,.sl 2 a2,.str a3] 0],.func (Fn.func 142) [] [.eptr 4 [tI a0,tI a1,.sl 2 a2,.str a3] 0,.eptr 8 [tI a4,tI a5,tI a6,tI a7,tI a8,
 Tree.bool a9,.str a10,.sl 2 a11] 0],.func (Fn.func 143) [] [.eptr 4 [tI a0,tI a1,.sl 2 a2,.str a3] 0,.eptr 8 [tI a4,tI a5,tI a6,tI
 a7,tI a8,.bool a9,.str a10,.sl 2 a11] 0],.func (Fn.func 144) [] [.eptr 4 [tI a0,tI a1,.sl 2 a2,.str a3] 0,.eptr 8 [tI a4,tI a5,
 tI a6,tI a7,tI a8,.bool a9,.str a10,.sl 2 a11] 0]]) (again31 ([.t (.bool (a5==a0))],[.box []]))) (DM (.box [.func (Fn.func 141) [] [.eptr 8
 [tI a4,tI a5,tI a6,tI a7,tI a8,.bool a9,.str a10,.sl 2 a11] 0,.eptr 4 [tI a0,tI a1,.sl 2 a2,.str a3] 0],.func (Fn.func 142) []
 [.eptr 4 [tI a0,tI a1,.sl 2 a2,.str a3] 0,.eptr 8 [tI a4,tI a5,tI a6,tI a7,tI a8,.bool a9,.str a10,.sl 2 a11] 0],.func
 (Fn.func 143) [] [.eptr 4 [tI a0,tI a1,.sl 2 a2,.str a3] 0,.eptr 8 [tI a4,tI a5,tI a6,tI a7,tI a8,.bool a9,.str a10,.sl 2 a11]
 0],.func (Fn.func 144) [] [.eptr 4 [tI a0,tI a1,.sl 2 a2,.str a3] 0,.eptr 8 [tI a4,tI a5,tI a6,tI a7,tI a8,.bool a9,.str a10,.sl
 2 a11] 0]]) (.box [.func (Fn.func 141) [] [.eptr 8 [tI a4,tI a5,tI a6,tI a7,tI a8,.bool a9,.str a10,.sl 2 a11] 0,.eptr 4 [tI a0,tI
 a1,.sl 2 a2,.str a3] 0],.func (Fn.func 142) [] [.eptr 4 [tI a0,tI a1,.sl 2 a2,.str a3] 0,.eptr 8 [tI a4,tI a5,tI a6,tI a7,tI a8,
 Tree.bool a9,.str a10,.sl 2 a11] 0],.func (Fn.func 143) [] [.eptr 4 [tI a0,tI a1,.sl 2 a2,.str a3] 0,.eptr 8 [tI a4,tI a5,tI a6,tI
 a7,tI a8,.bool a9,.str a10,.sl 2 a11] 0],.func (Fn.func 144) [] [.eptr 4 [tI a0,tI a1,.sl 2 a2,.str a3] 0,.eptr 8 [tI a4,tI a5,
 tI a6,tI a7,tI a8,.bool a9,.str a10,.sl 2 a11] 0]]) (again31 ([.t (.bool false)],[.box []])))) none)))) none) (some [.bool true])
theorem e86 (n:Nat) (a0:Int) (a1:Int) (a2:List (List Tree)) (a3:ByteArray) (a4:Int) (a5:Int) (a6:Int) (a7:Int) (a8:Int) (a9:Bool) (a10:ByteArray) (a11:List (List Tree)):AB C (n+1) 86 [tI a0,tI a1,.sl 2 a2,.str a3,tI a4,tI a5,tI a6,tI a7,tI a8,.bool a9,.str a10,.sl 2 a11]=
 DM (.box [.func (Fn.func 141) [] [.eptr 8 [tI a4,tI a5,tI a6,tI a7,tI a8,.bool a9,.str a10,.sl 2 a11] 0,.eptr 4 [tI a0,tI a1,.sl 2
 a2,.str a3] 0],.func (Fn.func 142) [] [.eptr 4 [tI a0,tI a1,.sl 2 a2,.str a3] 0,.eptr 8 [tI a4,tI a5,tI a6,tI a7,tI a8,.bool a9,.str
 a10,.sl 2 a11] 0],.func (Fn.func 143) [] [.eptr 4 [tI a0,tI a1,.sl 2 a2,.str a3] 0,.eptr 8 [tI a4,tI a5,tI a6,tI a7,tI a8,.bool a9,
 Tree.str a10,.sl 2 a11] 0],.func (Fn.func 144) [] [.eptr 4 [tI a0,tI a1,.sl 2 a2,.str a3] 0,.eptr 8 [tI a4,tI a5,tI a6,tI a7,tI a8,
 Tree.bool a9,.str a10,.sl 2 a11] 0]]) (.box [.func (Fn.func 141) [] [.eptr 8 [tI a4,tI a5,tI a6,tI a7,tI a8,.bool a9,.str a10,.sl 2 a11]
 0,.eptr 4 [tI a0,tI a1,.sl 2 a2,.str a3] 0],.func (Fn.func 142) [] [.eptr 4 [tI a0,tI a1,.sl 2 a2,.str a3] 0,.eptr 8
 [tI a4,tI a5,tI a6,tI a7,tI a8,.bool a9,.str a10,.sl 2 a11] 0],.func (Fn.func 143) [] [.eptr 4 [tI a0,tI a1,.sl 2 a2,.str a3] 0,
 .eptr 8 [tI a4,tI a5,tI a6,tI a7,tI a8,.bool a9,.str a10,.sl 2 a11] 0],.func (Fn.func 144) [] [.eptr 4 [tI a0,tI a1,.sl 2 a2,.str a3]
 0,.eptr 8 [tI a4,tI a5,tI a6,tI a7,tI a8,.bool a9,.str a10,.sl 2 a11] 0]]) (AH (fun (p12:List AV×Heap) (again13:_→Option (List Tree))=>
 M4 n a0 a1 a2 a3 a4 a5 a6 a7 a8 a9 a10 a11 p12 again13) n ([.t (tI 0)],[.box []])):=by kernel_rfl
theorem e87 (n:Nat) (a0:Int) (a1:Int) (a2:List (List Tree)) (a3:ByteArray) (a4:Int) (a5:Int) (a6:Int) (a7:Int) (a8:Int) (a9:Bool) (a10:ByteArray) (a11:List (List Tree)):AB C (n+1) 87 [tI a0,tI a1,.sl 2 a2,.str a3,tI a4,tI a5,tI a6,tI a7,tI a8,.bool a9,.str a10,.sl 2 a11]=
 Option.bind (AB C n 145 [.sl 2 a2,.sl 2 [[tI a7,tI (w64 (a7+((ByteArray.size a10:Nat):Int)))]]]) fun y12=>cnd (length y12=2) (cnd (okL 2 y12 0) (cnd
 (okI y12 1) (some [.sl 2 (gL y12 0),tI (gI y12 1)]) none) none) none:=by kernel_rfl
theorem e88 (n:Nat) (a0:Int) (a1:Int) (a2:Int) (a3:List (List Tree)):AB C (n+1) 88 [tI a0,tI a1,tI a2,.sl 2 a3]=
 Option.bind (AB C n 38 [tI 2,tI a0,tI a1,tI 0,tI a2,.bool false,.str (ByteArray.mk #[]),.sl 2 a3]) fun y4=>cnd (length y4=1) (cnd (okI y4
 0) (cnd (((gI y4 0) != 0)=true) (some [tI 0,tI 0,tI 0,tI 0,tI 0,.bool false,.str (ByteArray.mk #[]),.sl 2 [],tI (gI y4 0)]) (some [tI
 (2:Int),tI a0,tI a1,tI 0,tI a2,.bool false,.str (ByteArray.mk #[]),.sl 2 a3,tI 0])) none) none:=by kernel_rfl
theorem e89 (n:Nat) (a0:List (List Tree)):AB C (n+1) 89 [.sl 2 a0]=
 cnd (length a0≠0) (cnd (length a0≤1073741824) (some [.sl 2 (take (length a0) a0)]) none) (both (some [.sl 2 []]) (cnd (length a0≤
 1073741824) (some [.sl 2 (take (length a0) a0)]) none)):=by kernel_rfl
noncomputable def L91_1 (n:Nat) (y8:List Tree) (again12:(List AV×Heap)→Option (List Tree)) (p13:List AV×Heap) (again14:(List AV×Heap)→Option (List Tree)):Option (List Tree):=
 cnd (decide (((ByteArray.size (vS p13 0):Nat):Int)>0)=true) (cnd ((0:Int)≤w64 (((ByteArray.size (vS p13 0):Nat):Int)-(1:Int))∧w64 (((ByteArray.size (vS p13 0):Nat):Int)-(1:Int)) <
 ((ByteArray.size (vS p13 0):Nat):Int)) (cnd (0=0∧(0:Int)≤Ax (vS p13 0) (toNat (w64 (((ByteArray.size (vS p13 0):Nat):Int)-(1:Int))))∧Ax (vS p13 0) (toNat (w64
 (((ByteArray.size (vS p13 0):Nat):Int)-(1:Int))))<256) (cnd (0+((toNat (Ax (vS p13 0) (toNat (w64 (((ByteArray.size (vS p13 0):Nat):Int)-(1:Int))))))*1) <
 256) (cnd (C9 (List.getD [.bool (gB y8 0),.bool (gB y8 1),.bool (gB y8 2),.bool (gB y8 3),.bool (gB y8 4),.bool (gB y8 5),.bool (gB y8 6),.bool (gB y8
 7),.bool (gB y8 8),.bool (gB y8 9),.bool (gB y8 10),.bool (gB y8 11),.bool (gB y8 12),.bool (gB y8 13),.bool (gB y8 14),.bool (gB y8 15),.bool (gB y8 16),
 Tree.bool (gB y8 17),.bool (gB y8 18),.bool (gB y8 19),.bool (gB y8 20),.bool (gB y8 21),.bool (gB y8 22),.bool (gB y8 23),.bool (gB y8 24),.bool (gB y8 25),
 Tree.bool (gB y8 26),.bool (gB y8 27),.bool (gB y8 28),.bool (gB y8 29),.bool (gB y8 30),.bool (gB y8 31),.bool (gB y8 32),.bool (gB y8 33),.bool (gB y8 34),
 Tree.bool (gB y8 35),.bool (gB y8 36),.bool (gB y8 37),.bool (gB y8 38),.bool (gB y8 39),.bool (gB y8 40),.bool (gB y8 41),.bool (gB y8 42),.bool (gB y8 43),
 Tree.bool (gB y8 44),.bool (gB y8 45),.bool (gB y8 46),.bool (gB y8 47),.bool (gB y8 48),.bool (gB y8 49),.bool (gB y8 50),.bool (gB y8 51),.bool (gB y8 52),
 Tree.bool (gB y8 53),.bool (gB y8 54),.bool (gB y8 55),.bool (gB y8 56),.bool (gB y8 57),.bool (gB y8 58),.bool (gB y8 59),.bool (gB y8 60),.bool (gB y8 61),
 Tree.bool (gB y8 62),.bool (gB y8 63),.bool (gB y8 64),.bool (gB y8 65),.bool (gB y8 66),.bool (gB y8 67),.bool (gB y8 68),.bool (gB y8 69),.bool (gB y8 70),
 Tree.bool (gB y8 71),.bool (gB y8 72),.bool (gB y8 73),.bool (gB y8 74),.bool (gB y8 75),.bool (gB y8 76),.bool (gB y8 77),.bool (gB y8 78),.bool (gB y8 79),
 Tree.bool (gB y8 80),.bool (gB y8 81),.bool (gB y8 82),.bool (gB y8 83),.bool (gB y8 84),.bool (gB y8 85),.bool (gB y8 86),.bool (gB y8 87),.bool (gB y8 88),
 Tree.bool (gB y8 89),.bool (gB y8 90),.bool (gB y8 91),.bool (gB y8 92),.bool (gB y8 93),.bool (gB y8 94),.bool (gB y8 95),.bool (gB y8 96),.bool (gB y8 97),
 Tree.bool (gB y8 98),.bool (gB y8 99),.bool (gB y8 100),.bool (gB y8 101),.bool (gB y8 102),.bool (gB y8 103),.bool (gB y8 104),.bool (gB y8 105),.bool (gB y8
 106),.bool (gB y8 107),.bool (gB y8 108),.bool (gB y8 109),.bool (gB y8 110),.bool (gB y8 111),.bool (gB y8 112),.bool (gB y8 113),.bool (gB y8 114),.bool
 (gB y8 115),.bool (gB y8 116),.bool (gB y8 117),.bool (gB y8 118),.bool (gB y8 119),.bool (gB y8 120),.bool (gB y8 121),.bool (gB y8 122),.bool (gB y8 123),
 Tree.bool (gB y8 124),.bool (gB y8 125),.bool (gB y8 126),.bool (gB y8 127),.bool (gB y8 128),.bool (gB y8 129),.bool (gB y8 130),.bool (gB y8 131),.bool (gB y8
 132),.bool (gB y8 133),.bool (gB y8 134),.bool (gB y8 135),.bool (gB y8 136),.bool (gB y8 137),.bool (gB y8 138),.bool (gB y8 139),.bool (gB y8 140),.bool
 (gB y8 141),.bool (gB y8 142),.bool (gB y8 143),.bool (gB y8 144),.bool (gB y8 145),.bool (gB y8 146),.bool (gB y8 147),.bool (gB y8 148),.bool (gB y8 149),
 Tree.bool (gB y8 150),.bool (gB y8 151),.bool (gB y8 152),.bool (gB y8 153),.bool (gB y8 154),.bool (gB y8 155),.bool (gB y8 156),.bool (gB y8 157),.bool (gB y8
 158),.bool (gB y8 159),.bool (gB y8 160),.bool (gB y8 161),.bool (gB y8 162),.bool (gB y8 163),.bool (gB y8 164),.bool (gB y8 165),.bool (gB y8 166),.bool
 (gB y8 167),.bool (gB y8 168),.bool (gB y8 169),.bool (gB y8 170),.bool (gB y8 171),.bool (gB y8 172),.bool (gB y8 173),.bool (gB y8 174),.bool (gB y8 175),
 Tree.bool (gB y8 176),.bool (gB y8 177),.bool (gB y8 178),.bool (gB y8 179),.bool (gB y8 180),.bool (gB y8 181),.bool (gB y8 182),.bool (gB y8 183),.bool (gB y8
 184),.bool (gB y8 185),.bool (gB y8 186),.bool (gB y8 187),.bool (gB y8 188),.bool (gB y8 189),.bool (gB y8 190),.bool (gB y8 191),.bool (gB y8 192),.bool
 (gB y8 193),.bool (gB y8 194),.bool (gB y8 195),.bool (gB y8 196),.bool (gB y8 197),.bool (gB y8 198),.bool (gB y8 199),.bool (gB y8 200),.bool (gB y8 201),
 Tree.bool (gB y8 202),.bool (gB y8 203),.bool (gB y8 204),.bool (gB y8 205),.bool (gB y8 206),.bool (gB y8 207),.bool (gB y8 208),.bool (gB y8 209),.bool (gB y8
 210),.bool (gB y8 211),.bool (gB y8 212),.bool (gB y8 213),.bool (gB y8 214),.bool (gB y8 215),.bool (gB y8 216),.bool (gB y8 217),.bool (gB y8 218),.bool
 (gB y8 219),.bool (gB y8 220),.bool (gB y8 221),.bool (gB y8 222),.bool (gB y8 223),.bool (gB y8 224),.bool (gB y8 225),.bool (gB y8 226),.bool (gB y8 227),
 Tree.bool (gB y8 228),.bool (gB y8 229),.bool (gB y8 230),.bool (gB y8 231),.bool (gB y8 232),.bool (gB y8 233),.bool (gB y8 234),.bool (gB y8 235),.bool (gB y8
 236),.bool (gB y8 237),.bool (gB y8 238),.bool (gB y8 239),.bool (gB y8 240),.bool (gB y8 241),.bool (gB y8 242),.bool (gB y8 243),.bool (gB y8 244),.bool
 (gB y8 245),.bool (gB y8 246),.bool (gB y8 247),.bool (gB y8 248),.bool (gB y8 249),.bool (gB y8 250),.bool (gB y8 251),.bool (gB y8 252),.bool (gB y8 253),
 Tree.bool (gB y8 254),.bool (gB y8 255)] (0+((toNat (Ax (vS p13 0) (toNat (w64 (((ByteArray.size (vS p13 0):Nat):Int)-(1:Int))))))*1)) default)=true) (cnd
 ((!(Bu (List.getD [.bool (gB y8 0),.bool (gB y8 1),.bool (gB y8 2),.bool (gB y8 3),.bool (gB y8 4),.bool (gB y8 5),.bool (gB y8 6),.bool (gB y8 7),.bool
 (gB y8 8),.bool (gB y8 9),.bool (gB y8 10),.bool (gB y8 11),.bool (gB y8 12),.bool (gB y8 13),.bool (gB y8 14),.bool (gB y8 15),.bool (gB y8 16),.bool (gB
 y8 17),.bool (gB y8 18),.bool (gB y8 19),.bool (gB y8 20),.bool (gB y8 21),.bool (gB y8 22),.bool (gB y8 23),.bool (gB y8 24),.bool (gB y8 25),.bool (gB y8
 26),.bool (gB y8 27),.bool (gB y8 28),.bool (gB y8 29),.bool (gB y8 30),.bool (gB y8 31),.bool (gB y8 32),.bool (gB y8 33),.bool (gB y8 34),.bool (gB y8
 35),.bool (gB y8 36),.bool (gB y8 37),.bool (gB y8 38),.bool (gB y8 39),.bool (gB y8 40),.bool (gB y8 41),.bool (gB y8 42),.bool (gB y8 43),.bool (gB y8
 44),.bool (gB y8 45),.bool (gB y8 46),.bool (gB y8 47),.bool (gB y8 48),.bool (gB y8 49),.bool (gB y8 50),.bool (gB y8 51),.bool (gB y8 52),.bool (gB y8
 53),.bool (gB y8 54),.bool (gB y8 55),.bool (gB y8 56),.bool (gB y8 57),.bool (gB y8 58),.bool (gB y8 59),.bool (gB y8 60),.bool (gB y8 61),.bool (gB y8
 62),.bool (gB y8 63),.bool (gB y8 64),.bool (gB y8 65),.bool (gB y8 66),.bool (gB y8 67),.bool (gB y8 68),.bool (gB y8 69),.bool (gB y8 70),.bool (gB y8
 71),.bool (gB y8 72),.bool (gB y8 73),.bool (gB y8 74),.bool (gB y8 75),.bool (gB y8 76),.bool (gB y8 77),.bool (gB y8 78),.bool (gB y8 79),.bool (gB y8
 80),.bool (gB y8 81),.bool (gB y8 82),.bool (gB y8 83),.bool (gB y8 84),.bool (gB y8 85),.bool (gB y8 86),.bool (gB y8 87),.bool (gB y8 88),.bool (gB y8
 89),.bool (gB y8 90),.bool (gB y8 91),.bool (gB y8 92),.bool (gB y8 93),.bool (gB y8 94),.bool (gB y8 95),.bool (gB y8 96),.bool (gB y8 97),.bool (gB y8
 98),.bool (gB y8 99),.bool (gB y8 100),.bool (gB y8 101),.bool (gB y8 102),.bool (gB y8 103),.bool (gB y8 104),.bool (gB y8 105),.bool (gB y8 106),.bool
 (gB y8 107),.bool (gB y8 108),.bool (gB y8 109),.bool (gB y8 110),.bool (gB y8 111),.bool (gB y8 112),.bool (gB y8 113),.bool (gB y8 114),.bool (gB y8 115),
 Tree.bool (gB y8 116),.bool (gB y8 117),.bool (gB y8 118),.bool (gB y8 119),.bool (gB y8 120),.bool (gB y8 121),.bool (gB y8 122),.bool (gB y8 123),.bool (gB y8
 124),.bool (gB y8 125),.bool (gB y8 126),.bool (gB y8 127),.bool (gB y8 128),.bool (gB y8 129),.bool (gB y8 130),.bool (gB y8 131),.bool (gB y8 132),.bool
 (gB y8 133),.bool (gB y8 134),.bool (gB y8 135),.bool (gB y8 136),.bool (gB y8 137),.bool (gB y8 138),.bool (gB y8 139),.bool (gB y8 140),.bool (gB y8 141),
 Tree.bool (gB y8 142),.bool (gB y8 143),.bool (gB y8 144),.bool (gB y8 145),.bool (gB y8 146),.bool (gB y8 147),.bool (gB y8 148),.bool (gB y8 149),.bool (gB y8
 150),.bool (gB y8 151),.bool (gB y8 152),.bool (gB y8 153),.bool (gB y8 154),.bool (gB y8 155),.bool (gB y8 156),.bool (gB y8 157),.bool (gB y8 158),.bool
 (gB y8 159),.bool (gB y8 160),.bool (gB y8 161),.bool (gB y8 162),.bool (gB y8 163),.bool (gB y8 164),.bool (gB y8 165),.bool (gB y8 166),.bool (gB y8 167),
 Tree.bool (gB y8 168),.bool (gB y8 169),.bool (gB y8 170),.bool (gB y8 171),.bool (gB y8 172),.bool (gB y8 173),.bool (gB y8 174),.bool (gB y8 175),.bool (gB y8
 176),.bool (gB y8 177),.bool (gB y8 178),.bool (gB y8 179),.bool (gB y8 180),.bool (gB y8 181),.bool (gB y8 182),.bool (gB y8 183),.bool (gB y8 184),.bool
 (gB y8 185),.bool (gB y8 186),.bool (gB y8 187),.bool (gB y8 188),.bool (gB y8 189),.bool (gB y8 190),.bool (gB y8 191),.bool (gB y8 192),.bool (gB y8 193),
 Tree.bool (gB y8 194),.bool (gB y8 195),.bool (gB y8 196),.bool (gB y8 197),.bool (gB y8 198),.bool (gB y8 199),.bool (gB y8 200),.bool (gB y8 201),.bool (gB y8
 202),.bool (gB y8 203),.bool (gB y8 204),.bool (gB y8 205),.bool (gB y8 206),.bool (gB y8 207),.bool (gB y8 208),.bool (gB y8 209),.bool (gB y8 210),.bool
 (gB y8 211),.bool (gB y8 212),.bool (gB y8 213),.bool (gB y8 214),.bool (gB y8 215),.bool (gB y8 216),.bool (gB y8 217),.bool (gB y8 218),.bool (gB y8 219),
 Tree.bool (gB y8 220),.bool (gB y8 221),.bool (gB y8 222),.bool (gB y8 223),.bool (gB y8 224),.bool (gB y8 225),.bool (gB y8 226),.bool (gB y8 227),.bool (gB y8
 228),.bool (gB y8 229),.bool (gB y8 230),.bool (gB y8 231),.bool (gB y8 232),.bool (gB y8 233),.bool (gB y8 234),.bool (gB y8 235),.bool (gB y8 236),.bool
 (gB y8 237),.bool (gB y8 238),.bool (gB y8 239),.bool (gB y8 240),.bool (gB y8 241),.bool (gB y8 242),.bool (gB y8 243),.bool (gB y8 244),.bool (gB y8 245),
 Tree.bool (gB y8 246),.bool (gB y8 247),.bool (gB y8 248),.bool (gB y8 249),.bool (gB y8 250),.bool (gB y8 251),.bool (gB y8 252),.bool (gB y8 253),.bool (gB y8
 254),.bool (gB y8 255)] (0+((toNat (Ax (vS p13 0) (toNat (w64 (((ByteArray.size (vS p13 0):Nat):Int)-(1:Int))))))*1)) default)))=true) (again12 ([.t (.str
 (vS p13 0))],[.box []])) (cnd ((0:Int)≤w64 (((ByteArray.size (vS p13 0):Nat):Int)-(1:Int))∧w64 (((ByteArray.size (vS p13 0):Nat):Int)-(1:Int))≤((ByteArray.size (vS p13 0):Nat):Int))
 (again14 ([.t (.str (ByteArray.extract (vS p13 0) 0 (toNat (w64 (((ByteArray.size (vS p13 0):Nat):Int)-(1:Int))))))],[.box []])) none)) none) none) none) none) (again12 ([AV.t
 (Tree.str (vS p13 0))],[.box []]))
noncomputable def J91_2 (n:Nat) (again10:(List AV×Heap)→Option (List Tree)) (p11:List AV×Heap):Option (List Tree):=
 again10 ([.t (.str (vS p11 0))],[.box []])
noncomputable def L91_3 (n:Nat) (y8:List Tree) (again20:(List AV×Heap)→Option (List Tree)) (p21:List AV×Heap) (again22:(List AV×Heap)→Option (List Tree)):Option (List Tree):=
 cnd (decide (((ByteArray.size (vS p21 0):Nat):Int)>0)=true) (cnd ((0:Int)≤0∧(0:Int)<((ByteArray.size (vS p21 0):Nat):Int)) (cnd (0=0∧(0:Int)≤Ax (vS p21 0)
 0∧Ax (vS p21 0) 0<256) (cnd (0+((toNat (Ax (vS p21 0) 0))*1)<256) (cnd (C9 (List.getD [.bool (gB y8 0),.bool (gB y8 1),
 Tree.bool (gB y8 2),.bool (gB y8 3),.bool (gB y8 4),.bool (gB y8 5),.bool (gB y8 6),.bool (gB y8 7),.bool (gB y8 8),.bool (gB y8 9),.bool (gB y8 10),.bool
 (gB y8 11),.bool (gB y8 12),.bool (gB y8 13),.bool (gB y8 14),.bool (gB y8 15),.bool (gB y8 16),.bool (gB y8 17),.bool (gB y8 18),.bool (gB y8 19),.bool
 (gB y8 20),.bool (gB y8 21),.bool (gB y8 22),.bool (gB y8 23),.bool (gB y8 24),.bool (gB y8 25),.bool (gB y8 26),.bool (gB y8 27),.bool (gB y8 28),.bool
 (gB y8 29),.bool (gB y8 30),.bool (gB y8 31),.bool (gB y8 32),.bool (gB y8 33),.bool (gB y8 34),.bool (gB y8 35),.bool (gB y8 36),.bool (gB y8 37),.bool
 (gB y8 38),.bool (gB y8 39),.bool (gB y8 40),.bool (gB y8 41),.bool (gB y8 42),.bool (gB y8 43),.bool (gB y8 44),.bool (gB y8 45),.bool (gB y8 46),.bool
 (gB y8 47),.bool (gB y8 48),.bool (gB y8 49),.bool (gB y8 50),.bool (gB y8 51),.bool (gB y8 52),.bool (gB y8 53),.bool (gB y8 54),.bool (gB y8 55),.bool
 (gB y8 56),.bool (gB y8 57),.bool (gB y8 58),.bool (gB y8 59),.bool (gB y8 60),.bool (gB y8 61),.bool (gB y8 62),.bool (gB y8 63),.bool (gB y8 64),.bool
 (gB y8 65),.bool (gB y8 66),.bool (gB y8 67),.bool (gB y8 68),.bool (gB y8 69),.bool (gB y8 70),.bool (gB y8 71),.bool (gB y8 72),.bool (gB y8 73),.bool
 (gB y8 74),.bool (gB y8 75),.bool (gB y8 76),.bool (gB y8 77),.bool (gB y8 78),.bool (gB y8 79),.bool (gB y8 80),.bool (gB y8 81),.bool (gB y8 82),.bool
 (gB y8 83),.bool (gB y8 84),.bool (gB y8 85),.bool (gB y8 86),.bool (gB y8 87),.bool (gB y8 88),.bool (gB y8 89),.bool (gB y8 90),.bool (gB y8 91),.bool
 (gB y8 92),.bool (gB y8 93),.bool (gB y8 94),.bool (gB y8 95),.bool (gB y8 96),.bool (gB y8 97),.bool (gB y8 98),.bool (gB y8 99),.bool (gB y8 100),.bool
 (gB y8 101),.bool (gB y8 102),.bool (gB y8 103),.bool (gB y8 104),.bool (gB y8 105),.bool (gB y8 106),.bool (gB y8 107),.bool (gB y8 108),.bool (gB y8 109),
 Tree.bool (gB y8 110),.bool (gB y8 111),.bool (gB y8 112),.bool (gB y8 113),.bool (gB y8 114),.bool (gB y8 115),.bool (gB y8 116),.bool (gB y8 117),.bool (gB y8
 118),.bool (gB y8 119),.bool (gB y8 120),.bool (gB y8 121),.bool (gB y8 122),.bool (gB y8 123),.bool (gB y8 124),.bool (gB y8 125),.bool (gB y8 126),.bool
 (gB y8 127),.bool (gB y8 128),.bool (gB y8 129),.bool (gB y8 130),.bool (gB y8 131),.bool (gB y8 132),.bool (gB y8 133),.bool (gB y8 134),.bool (gB y8 135),
 Tree.bool (gB y8 136),.bool (gB y8 137),.bool (gB y8 138),.bool (gB y8 139),.bool (gB y8 140),.bool (gB y8 141),.bool (gB y8 142),.bool (gB y8 143),.bool (gB y8
 144),.bool (gB y8 145),.bool (gB y8 146),.bool (gB y8 147),.bool (gB y8 148),.bool (gB y8 149),.bool (gB y8 150),.bool (gB y8 151),.bool (gB y8 152),.bool
 (gB y8 153),.bool (gB y8 154),.bool (gB y8 155),.bool (gB y8 156),.bool (gB y8 157),.bool (gB y8 158),.bool (gB y8 159),.bool (gB y8 160),.bool (gB y8 161),
 Tree.bool (gB y8 162),.bool (gB y8 163),.bool (gB y8 164),.bool (gB y8 165),.bool (gB y8 166),.bool (gB y8 167),.bool (gB y8 168),.bool (gB y8 169),.bool (gB y8
 170),.bool (gB y8 171),.bool (gB y8 172),.bool (gB y8 173),.bool (gB y8 174),.bool (gB y8 175),.bool (gB y8 176),.bool (gB y8 177),.bool (gB y8 178),.bool
 (gB y8 179),.bool (gB y8 180),.bool (gB y8 181),.bool (gB y8 182),.bool (gB y8 183),.bool (gB y8 184),.bool (gB y8 185),.bool (gB y8 186),.bool (gB y8 187),
 Tree.bool (gB y8 188),.bool (gB y8 189),.bool (gB y8 190),.bool (gB y8 191),.bool (gB y8 192),.bool (gB y8 193),.bool (gB y8 194),.bool (gB y8 195),.bool (gB y8
 196),.bool (gB y8 197),.bool (gB y8 198),.bool (gB y8 199),.bool (gB y8 200),.bool (gB y8 201),.bool (gB y8 202),.bool (gB y8 203),.bool (gB y8 204),.bool
 (gB y8 205),.bool (gB y8 206),.bool (gB y8 207),.bool (gB y8 208),.bool (gB y8 209),.bool (gB y8 210),.bool (gB y8 211),.bool (gB y8 212),.bool (gB y8 213),
 Tree.bool (gB y8 214),.bool (gB y8 215),.bool (gB y8 216),.bool (gB y8 217),.bool (gB y8 218),.bool (gB y8 219),.bool (gB y8 220),.bool (gB y8 221),.bool (gB y8
 222),.bool (gB y8 223),.bool (gB y8 224),.bool (gB y8 225),.bool (gB y8 226),.bool (gB y8 227),.bool (gB y8 228),.bool (gB y8 229),.bool (gB y8 230),.bool
 (gB y8 231),.bool (gB y8 232),.bool (gB y8 233),.bool (gB y8 234),.bool (gB y8 235),.bool (gB y8 236),.bool (gB y8 237),.bool (gB y8 238),.bool (gB y8 239),
 Tree.bool (gB y8 240),.bool (gB y8 241),.bool (gB y8 242),.bool (gB y8 243),.bool (gB y8 244),.bool (gB y8 245),.bool (gB y8 246),.bool (gB y8 247),.bool (gB y8
 248),.bool (gB y8 249),.bool (gB y8 250),.bool (gB y8 251),.bool (gB y8 252),.bool (gB y8 253),.bool (gB y8 254),.bool (gB y8 255)] (0+((toNat (Ax
 (vS p21 0) 0))*1)) default)=true) (cnd ((!(Bu (List.getD [.bool (gB y8 0),.bool (gB y8 1),.bool (gB y8 2),.bool (gB y8 3),.bool (gB y8 4),.bool (gB y8
 5),.bool (gB y8 6),.bool (gB y8 7),.bool (gB y8 8),.bool (gB y8 9),.bool (gB y8 10),.bool (gB y8 11),.bool (gB y8 12),.bool (gB y8 13),.bool (gB y8 14),
 Tree.bool (gB y8 15),.bool (gB y8 16),.bool (gB y8 17),.bool (gB y8 18),.bool (gB y8 19),.bool (gB y8 20),.bool (gB y8 21),.bool (gB y8 22),.bool (gB y8 23),
 Tree.bool (gB y8 24),.bool (gB y8 25),.bool (gB y8 26),.bool (gB y8 27),.bool (gB y8 28),.bool (gB y8 29),.bool (gB y8 30),.bool (gB y8 31),.bool (gB y8 32),
 Tree.bool (gB y8 33),.bool (gB y8 34),.bool (gB y8 35),.bool (gB y8 36),.bool (gB y8 37),.bool (gB y8 38),.bool (gB y8 39),.bool (gB y8 40),.bool (gB y8 41),
 Tree.bool (gB y8 42),.bool (gB y8 43),.bool (gB y8 44),.bool (gB y8 45),.bool (gB y8 46),.bool (gB y8 47),.bool (gB y8 48),.bool (gB y8 49),.bool (gB y8 50),
 Tree.bool (gB y8 51),.bool (gB y8 52),.bool (gB y8 53),.bool (gB y8 54),.bool (gB y8 55),.bool (gB y8 56),.bool (gB y8 57),.bool (gB y8 58),.bool (gB y8 59),
 Tree.bool (gB y8 60),.bool (gB y8 61),.bool (gB y8 62),.bool (gB y8 63),.bool (gB y8 64),.bool (gB y8 65),.bool (gB y8 66),.bool (gB y8 67),.bool (gB y8 68),
 Tree.bool (gB y8 69),.bool (gB y8 70),.bool (gB y8 71),.bool (gB y8 72),.bool (gB y8 73),.bool (gB y8 74),.bool (gB y8 75),.bool (gB y8 76),.bool (gB y8 77),
 Tree.bool (gB y8 78),.bool (gB y8 79),.bool (gB y8 80),.bool (gB y8 81),.bool (gB y8 82),.bool (gB y8 83),.bool (gB y8 84),.bool (gB y8 85),.bool (gB y8 86),
 Tree.bool (gB y8 87),.bool (gB y8 88),.bool (gB y8 89),.bool (gB y8 90),.bool (gB y8 91),.bool (gB y8 92),.bool (gB y8 93),.bool (gB y8 94),.bool (gB y8 95),
 Tree.bool (gB y8 96),.bool (gB y8 97),.bool (gB y8 98),.bool (gB y8 99),.bool (gB y8 100),.bool (gB y8 101),.bool (gB y8 102),.bool (gB y8 103),.bool (gB y8
 104),.bool (gB y8 105),.bool (gB y8 106),.bool (gB y8 107),.bool (gB y8 108),.bool (gB y8 109),.bool (gB y8 110),.bool (gB y8 111),.bool (gB y8 112),.bool
 (gB y8 113),.bool (gB y8 114),.bool (gB y8 115),.bool (gB y8 116),.bool (gB y8 117),.bool (gB y8 118),.bool (gB y8 119),.bool (gB y8 120),.bool (gB y8 121),
 Tree.bool (gB y8 122),.bool (gB y8 123),.bool (gB y8 124),.bool (gB y8 125),.bool (gB y8 126),.bool (gB y8 127),.bool (gB y8 128),.bool (gB y8 129),.bool (gB y8
 130),.bool (gB y8 131),.bool (gB y8 132),.bool (gB y8 133),.bool (gB y8 134),.bool (gB y8 135),.bool (gB y8 136),.bool (gB y8 137),.bool (gB y8 138),.bool
 (gB y8 139),.bool (gB y8 140),.bool (gB y8 141),.bool (gB y8 142),.bool (gB y8 143),.bool (gB y8 144),.bool (gB y8 145),.bool (gB y8 146),.bool (gB y8 147),
 Tree.bool (gB y8 148),.bool (gB y8 149),.bool (gB y8 150),.bool (gB y8 151),.bool (gB y8 152),.bool (gB y8 153),.bool (gB y8 154),.bool (gB y8 155),.bool (gB y8
 156),.bool (gB y8 157),.bool (gB y8 158),.bool (gB y8 159),.bool (gB y8 160),.bool (gB y8 161),.bool (gB y8 162),.bool (gB y8 163),.bool (gB y8 164),.bool
 (gB y8 165),.bool (gB y8 166),.bool (gB y8 167),.bool (gB y8 168),.bool (gB y8 169),.bool (gB y8 170),.bool (gB y8 171),.bool (gB y8 172),.bool (gB y8 173),
 Tree.bool (gB y8 174),.bool (gB y8 175),.bool (gB y8 176),.bool (gB y8 177),.bool (gB y8 178),.bool (gB y8 179),.bool (gB y8 180),.bool (gB y8 181),.bool (gB y8
 182),.bool (gB y8 183),.bool (gB y8 184),.bool (gB y8 185),.bool (gB y8 186),.bool (gB y8 187),.bool (gB y8 188),.bool (gB y8 189),.bool (gB y8 190),.bool
 (gB y8 191),.bool (gB y8 192),.bool (gB y8 193),.bool (gB y8 194),.bool (gB y8 195),.bool (gB y8 196),.bool (gB y8 197),.bool (gB y8 198),.bool (gB y8 199),
 Tree.bool (gB y8 200),.bool (gB y8 201),.bool (gB y8 202),.bool (gB y8 203),.bool (gB y8 204),.bool (gB y8 205),.bool (gB y8 206),.bool (gB y8 207),.bool (gB y8
 208),.bool (gB y8 209),.bool (gB y8 210),.bool (gB y8 211),.bool (gB y8 212),.bool (gB y8 213),.bool (gB y8 214),.bool (gB y8 215),.bool (gB y8 216),.bool
 (gB y8 217),.bool (gB y8 218),.bool (gB y8 219),.bool (gB y8 220),.bool (gB y8 221),.bool (gB y8 222),.bool (gB y8 223),.bool (gB y8 224),.bool (gB y8 225),
 Tree.bool (gB y8 226),.bool (gB y8 227),.bool (gB y8 228),.bool (gB y8 229),.bool (gB y8 230),.bool (gB y8 231),.bool (gB y8 232),.bool (gB y8 233),.bool (gB y8
 234),.bool (gB y8 235),.bool (gB y8 236),.bool (gB y8 237),.bool (gB y8 238),.bool (gB y8 239),.bool (gB y8 240),.bool (gB y8 241),.bool (gB y8 242),.bool
 (gB y8 243),.bool (gB y8 244),.bool (gB y8 245),.bool (gB y8 246),.bool (gB y8 247),.bool (gB y8 248),.bool (gB y8 249),.bool (gB y8 250),.bool (gB y8 251),
 Tree.bool (gB y8 252),.bool (gB y8 253),.bool (gB y8 254),.bool (gB y8 255)] (0+((toNat (Ax (vS p21 0) 0))*1)) default)))=true) (again20 ([.t (.str
 (vS p21 0))],[.box []])) (cnd ((0:Int)≤1∧(1:Int)≤((ByteArray.size (vS p21 0):Nat):Int)) (again22 ([.t (.str (ByteArray.extract (vS p21 0) 1 (ByteArray.size (vS p21 0))))],
 [.box []])) none)) none) none) none) none) (again20 ([.t (.str (vS p21 0))],[.box []]))
noncomputable def J91_4 (n:Nat) (again18:(List AV×Heap)→Option (List Tree)) (p19:List AV×Heap):Option (List Tree):=
 again18 ([.t (.str (vS p19 0))],[.box []])
noncomputable def J91_5 (n:Nat)  (p17:List AV×Heap):Option (List Tree):=
 some [.str (vS p17 0)]
noncomputable def J91_6 (n:Nat) (y8:List Tree) (p9:List AV×Heap):Option (List Tree):=
 join (fun (p17:List AV×Heap)=>J91_5 n p17) fun (again18:_→Option (List Tree))=>join (fun (p19:List AV×Heap)=>J91_4 n again18 p19) fun (again20:_→Option (List Tree))=>AH
 (fun (p21:List AV×Heap) (again22:_→Option (List Tree))=>L91_3 n y8 again20 p21 again22) n ([.t (.str (vS p9 0))],[.box []])
noncomputable def Ph (n:Nat) (a0:ByteArray) (p2:List AV×Heap):Option (List Tree):=
 cnd (vB p2 0=true) (some [.str a0]) (cnd (decide (Ax (ByteArray.mk #[0]) 0<128)=true) (Option.bind (AB C n 147 [.str a0,.int IntKind.u8 (Ax
 (ByteArray.mk #[0]) 0)]) fun y6=>cnd (length y6=1) (cnd (okS y6 0) (Option.bind (AB C n 146 [.str (gS y6 0),.int IntKind.u8 (Ax (ByteArray.mk #[0])
 0)]) fun y7=>cnd (length y7=1) (cnd (okS y7 0) (some [.str (gS y7 0)]) none) none) none) none) (Option.bind (AB C n 148 [.str (ByteArray.mk #[0])]) fun y8=>cnd
 (length y8=257) (cnd (okB y8 0) (cnd (okB y8 1) (cnd (okB y8 2) (cnd (okB y8 3) (cnd (okB y8 4) (cnd (okB y8 5) (cnd (okB y8 6) (cnd (okB y8 7) (cnd (okB y8 8) (cnd (okB y8 9) (cnd (okB
 y8 10) (cnd (okB y8 11) (cnd (okB y8 12) (cnd (okB y8 13) (cnd (okB y8 14) (cnd (okB y8 15) (cnd (okB y8 16) (cnd (okB y8 17) (cnd (okB y8 18) (cnd (okB y8 19) (cnd (okB y8 20) (cnd (okB y8 21) (cnd
 (okB y8 22) (cnd (okB y8 23) (cnd (okB y8 24) (cnd (okB y8 25) (cnd (okB y8 26) (cnd (okB y8 27) (cnd (okB y8 28) (cnd (okB y8 29) (cnd (okB y8 30) (cnd (okB y8 31) (cnd (okB y8 32) (cnd (okB y8 33)
 (cnd (okB y8 34) (cnd (okB y8 35) (cnd (okB y8 36) (cnd (okB y8 37) (cnd (okB y8 38) (cnd (okB y8 39) (cnd (okB y8 40) (cnd (okB y8 41) (cnd (okB y8 42) (cnd (okB y8 43) (cnd (okB y8 44) (cnd (okB y8
 45) (cnd (okB y8 46) (cnd (okB y8 47) (cnd (okB y8 48) (cnd (okB y8 49) (cnd (okB y8 50) (cnd (okB y8 51) (cnd (okB y8 52) (cnd (okB y8 53) (cnd (okB y8 54) (cnd (okB y8 55) (cnd (okB y8 56) (cnd (okB
 y8 57) (cnd (okB y8 58) (cnd (okB y8 59) (cnd (okB y8 60) (cnd (okB y8 61) (cnd (okB y8 62) (cnd (okB y8 63) (cnd (okB y8 64) (cnd (okB y8 65) (cnd (okB y8 66) (cnd (okB y8 67) (cnd (okB y8 68) (cnd
 (okB y8 69) (cnd (okB y8 70) (cnd (okB y8 71) (cnd (okB y8 72) (cnd (okB y8 73) (cnd (okB y8 74) (cnd (okB y8 75) (cnd (okB y8 76) (cnd (okB y8 77) (cnd (okB y8 78) (cnd (okB y8 79) (cnd (okB y8 80)
 (cnd (okB y8 81) (cnd (okB y8 82) (cnd (okB y8 83) (cnd (okB y8 84) (cnd (okB y8 85) (cnd (okB y8 86) (cnd (okB y8 87) (cnd (okB y8 88) (cnd (okB y8 89) (cnd (okB y8 90) (cnd (okB y8 91) (cnd (okB y8
 92) (cnd (okB y8 93) (cnd (okB y8 94) (cnd (okB y8 95) (cnd (okB y8 96) (cnd (okB y8 97) (cnd (okB y8 98) (cnd (okB y8 99) (cnd (okB y8 100) (cnd (okB y8 101) (cnd (okB y8 102) (cnd (okB y8 103) (cnd
 (okB y8 104) (cnd (okB y8 105) (cnd (okB y8 106) (cnd (okB y8 107) (cnd (okB y8 108) (cnd (okB y8 109) (cnd (okB y8 110) (cnd (okB y8 111) (cnd (okB y8 112) (cnd (okB y8 113) (cnd (okB y8 114) (cnd
 (okB y8 115) (cnd (okB y8 116) (cnd (okB y8 117) (cnd (okB y8 118) (cnd (okB y8 119) (cnd (okB y8 120) (cnd (okB y8 121) (cnd (okB y8 122) (cnd (okB y8 123) (cnd (okB y8 124) (cnd (okB y8 125) (cnd
 (okB y8 126) (cnd (okB y8 127) (cnd (okB y8 128) (cnd (okB y8 129) (cnd (okB y8 130) (cnd (okB y8 131) (cnd (okB y8 132) (cnd (okB y8 133) (cnd (okB y8 134) (cnd (okB y8 135) (cnd (okB y8 136) (cnd
 (okB y8 137) (cnd (okB y8 138) (cnd (okB y8 139) (cnd (okB y8 140) (cnd (okB y8 141) (cnd (okB y8 142) (cnd (okB y8 143) (cnd (okB y8 144) (cnd (okB y8 145) (cnd (okB y8 146) (cnd (okB y8 147) (cnd
 (okB y8 148) (cnd (okB y8 149) (cnd (okB y8 150) (cnd (okB y8 151) (cnd (okB y8 152) (cnd (okB y8 153) (cnd (okB y8 154) (cnd (okB y8 155) (cnd (okB y8 156) (cnd (okB y8 157) (cnd (okB y8 158) (cnd
 (okB y8 159) (cnd (okB y8 160) (cnd (okB y8 161) (cnd (okB y8 162) (cnd (okB y8 163) (cnd (okB y8 164) (cnd (okB y8 165) (cnd (okB y8 166) (cnd (okB y8 167) (cnd (okB y8 168) (cnd (okB y8 169) (cnd
 (okB y8 170) (cnd (okB y8 171) (cnd (okB y8 172) (cnd (okB y8 173) (cnd (okB y8 174) (cnd (okB y8 175) (cnd (okB y8 176) (cnd (okB y8 177) (cnd (okB y8 178) (cnd (okB y8 179) (cnd (okB y8 180) (cnd
 (okB y8 181) (cnd (okB y8 182) (cnd (okB y8 183) (cnd (okB y8 184) (cnd (okB y8 185) (cnd (okB y8 186) (cnd (okB y8 187) (cnd (okB y8 188) (cnd (okB y8 189) (cnd (okB y8 190) (cnd (okB y8 191) (cnd
 (okB y8 192) (cnd (okB y8 193) (cnd (okB y8 194) (cnd (okB y8 195) (cnd (okB y8 196) (cnd (okB y8 197) (cnd (okB y8 198) (cnd (okB y8 199) (cnd (okB y8 200) (cnd (okB y8 201) (cnd (okB y8 202) (cnd
 (okB y8 203) (cnd (okB y8 204) (cnd (okB y8 205) (cnd (okB y8 206) (cnd (okB y8 207) (cnd (okB y8 208) (cnd (okB y8 209) (cnd (okB y8 210) (cnd (okB y8 211) (cnd (okB y8 212) (cnd (okB y8 213) (cnd
 (okB y8 214) (cnd (okB y8 215) (cnd (okB y8 216) (cnd (okB y8 217) (cnd (okB y8 218) (cnd (okB y8 219) (cnd (okB y8 220) (cnd (okB y8 221) (cnd (okB y8 222) (cnd (okB y8 223) (cnd (okB y8 224) (cnd
 (okB y8 225) (cnd (okB y8 226) (cnd (okB y8 227) (cnd (okB y8 228) (cnd (okB y8 229) (cnd (okB y8 230) (cnd (okB y8 231) (cnd (okB y8 232) (cnd (okB y8 233) (cnd (okB y8 234) (cnd (okB y8 235) (cnd
 (okB y8 236) (cnd (okB y8 237) (cnd (okB y8 238) (cnd (okB y8 239) (cnd (okB y8 240) (cnd (okB y8 241) (cnd (okB y8 242) (cnd (okB y8 243) (cnd (okB y8 244) (cnd (okB y8 245) (cnd (okB y8 246) (cnd
 (okB y8 247) (cnd (okB y8 248) (cnd (okB y8 249) (cnd (okB y8 250) (cnd (okB y8 251) (cnd (okB y8 252) (cnd (okB y8 253) (cnd (okB y8 254) (cnd (okB y8 255) (cnd (okB y8 256) (cnd (gB y8 256=true)
 (join (fun (p9:List AV×Heap)=>J91_6 n y8 p9) fun (again10:_→Option (List Tree))=>join (fun (p11:List AV×Heap)=>J91_2 n again10 p11) fun (again12:_→Option (List Tree))=>AH
 (fun (p13:List AV×Heap) (again14:_→Option (List Tree))=>L91_1 n y8 again12 p13 again14) n ([.t (.str a0)],[.box []])) (Option.bind (AB C n 152 [.str a0,.str
 (ByteArray.mk #[0])]) fun y25=>cnd (length y25=1) (cnd (okS y25 0) (Option.bind (AB C n 151 [.str (gS y25 0),.str (ByteArray.mk #[0])]) fun y26=>cnd (length y26
 = 1) (cnd (okS y26 0) (some [.str (gS y26 0)]) none) none) none) none)) none) none) none) none) none) none) none) none) none) none) none) none) none) none) none) none) none) none) none)
 none) none) none) none) none) none) none) none) none) none) none) none) none) none) none) none) none) none) none) none) none) none) none) none) none) none) none) none) none) none) none) none) none)
 none) none) none) none) none) none) none) none) none) none) none) none) none) none) none) none) none) none) none) none) none) none) none) none) none) none) none) none) none) none) none) none) none)
 none) none) none) none) none) none) none) none) none) none) none) none) none) none) none) none) none) none) none) none) none) none) none) none) none) none) none) none) none) none) none) none) none)
 none) none) none) none) none) none) none) none) none) none) none) none) none) none) none) none) none) none) none) none) none) none) none) none) none) none) none) none) none) none) none) none) none)
 none) none) none) none) none) none) none) none) none) none) none) none) none) none) none) none) none) none) none) none) none) none) none) none) none) none) none) none) none) none) none) none) none)
 none) none) none) none) none) none) none) none) none) none) none) none) none) none) none) none) none) none) none) none) none) none) none) none) none) none) none) none) none) none) none) none) none)
 none) none) none) none) none) none) none) none) none) none) none) none) none) none) none) none) none) none) none) none) none) none) none) none) none) none) none) none) none) none) none) none) none)
 none) none) none) none) none) none) none) none))
theorem e91 (n:Nat) (a0:ByteArray):AB C (n+1) 91 [.str a0,.str (ByteArray.mk #[0])]=
 join (fun (p2:List AV×Heap)=>Ph n a0 p2) fun (again3:_→Option (List Tree))=>cnd ((a0==(ByteArray.mk #[]))=true) (again3 ([.t (.bool true)],[])) (again3 ([.t (.bool
 ((ByteArray.mk #[0])==(ByteArray.mk #[])))],[])):=by kernel_rfl
noncomputable def J93_3 (n:Nat) (p10:List AV×Heap) (again11:(List AV×Heap)→Option (List Tree)) (y12:List Tree) (p13:List AV×Heap):Option (List Tree):=
 cnd (vB p13 0=true) none (cnd (AF p13 0=Ar p10 0∧(3=3∨3=0)∧(A1 p10 0)+(AR p10 0)≤length (oEs p13 0)∧(AR p10 0)+1≤1073741824)
 (again11 ([.sref 0 ((Ar p10 0)+1) 0 ((AR p10 0)+1),.t (tI (w64 ((vI p10 1)+(gI y12 3)))),.t (tI (w64 ((vI p10 2)+1)))],[.row false ((Ar p10 0)
 + 1) 3 ((take (AR p10 0) (drop (A1 p10 0) (oEs p13 0)))++[[tI (gI y12 0),tI (gI y12 1),.str (gS y12 2)]])])) none)
noncomputable def PU (n:Nat) (y1:List Tree) (a0:ByteArray) (p10:List AV×Heap) (again11:(List AV×Heap)→Option (List Tree)):Option (List Tree):=
 cnd (decide (vI p10 2<gI y1 0)=true) (cnd ((0:Int)≤vI p10 1∧vI p10 1≤((ByteArray.size a0:Nat):Int)) (Option.bind (AB C n 153 [.str (ByteArray.extract a0 (toNat (vI p10 1))
 (ByteArray.size a0))]) fun y12=>cnd (length y12=5) (cnd (okI y12 0) (cnd (okI y12 1) (cnd (okS y12 2) (cnd (okI y12 3) (cnd (okI y12 4) (cnd (((gI y12 4) != 0)=true) none (join
 (fun (p13:List AV×Heap)=>J93_3 n p10 again11 y12 p13) fun (again14:_→Option (List Tree))=>cnd (AF p10 0=Ar p10 0) (cnd (decide (((AR p10 0:Nat):Int)>0)=true) (cnd (AF
 p10 0=Ar p10 0) (cnd (AF p10 0=Ar p10 0∧3=3∧(0:Int)≤w64 (((AR p10 0:Nat):Int)-(1:Int))∧w64 (((AR p10 0:Nat):Int)-(1:Int))<((AR p10 0:Nat):Int)) (cnd (AF
 p10 0=Ar p10 0) (cnd (AF p10 0=Ar p10 0) (Option.bind (oEs p10 0)[(A1 p10 0)+(toNat (w64 (((AR p10 0:Nat):Int)-(1:Int))))]? fun y15=>cnd (okI y15 0) (again14 ([.t (.bool
 (decide (gI y12 0≤gI y15 0)))],[.row false (AF p10 0) 3 (oEs p10 0),.box []])) none) none) none) none) none) (again14 ([.t (.bool false)],[.row false (AF p10 0)
 3 (oEs p10 0),.box []]))) none)) none) none) none) none) none) none) none) (cnd ((false=true∨false=false)∧AF p10 0=Ar p10 0∧(3=3∨3=0)) (some
 [.sl 3 (take (AR p10 0) (drop (A1 p10 0) (oEs p10 0))),tI (vI p10 1),tI 0]) none)
theorem e93 (n:Nat) (a0:ByteArray):AB C (n+1) 93 [.str a0]=
 Option.bind (AB C n 83 [.str a0]) fun y1=>cnd (length y1=3) (cnd (okI y1 0) (cnd (okI y1 1) (cnd (okI y1 2) (cnd (((gI y1 2) != 0)=true) none (cnd (decide (gI y1 0
 < 0)=true) none (cnd (decide (gI y1 0>8)=true) none (AH (fun (p10:List AV×Heap) (again11:_→Option (List Tree))=>PU n y1 a0 p10 again11) n ([.sref 0 0
 0 0,.t (tI (gI y1 1)),.t (tI 0)],[.row false 0 3 []]))))) none) none) none) none:=by kernel_rfl
theorem e98 (n:Nat) (a0:Int) (a1:Int) (a2:Int):AB C (n+1) 98 [tI a0,tI a1,tI a2]=
 cnd (decide (a0≥a1)=true) (some [.bool (decide (a0≤a2))]) (some [.bool false]):=by kernel_rfl
theorem e99 (n:Nat) (a0:Int) (a1:Int) (a2:Int) (a3:Int) (a4:Int) (a5:Int) (a6:Int) (a7:Int) (a8:Int) (a9:Bool) (a10:ByteArray):AB C (n+1) 99 [tI a0,tI a1,tI a2,tI a3,tI a4,tI a5,tI a6,tI a7,tI a8,.bool a9,.str a10]=
 Option.bind (AB C n 100 [tI a1,tI a2,tI a3,tI a4,tI a5]) fun y13=>cnd (length y13=1) (cnd (okB y13 0) (cnd ((!(gB y13 0))=true) (some [tI 2]) (Option.bind (AB C
 n 98 [tI a0,tI 0,tI 1152921504606846976]) fun y14=>cnd (length y14=1) (cnd (okB y14 0) (cnd ((!(gB y14 0))=true) (some [tI 2]) (Option.bind (AB C n
 98 [tI a6,tI 0,tI 15]) fun y15=>cnd (length y15=1) (cnd (okB y15 0) (cnd ((!(gB y15 0))=true) (some [tI 2]) (Option.bind (AB C n 98 [tI a7,tI
 (1:Int),tI 1099511627776]) fun y16=>cnd (length y16=1) (cnd (okB y16 0) (cnd ((!(gB y16 0))=true) (some [tI 2]) (Option.bind (AB C n 98 [tI a8,tI 0,tI
 (2:Int)]) fun y17=>cnd (length y17=1) (cnd (okB y17 0) (cnd ((!(gB y17 0))=true) (some [tI 2]) (Option.bind (AB C n 98 [tI ((ByteArray.size a10:Nat):Int),tI 1,
 tI 65536]) fun y19=>cnd (length y19=1) (cnd (okB y19 0) (cnd ((!(gB y19 0))=true) (some [tI 4]) (some [tI 0])) none) none)) none) none)) none) none)) none) none))
 none) none)) none) none:=by kernel_rfl
noncomputable def Q5 (n:Nat) (a3:Int) (a4:Int) (p5:List AV×Heap):Option (List Tree):=
 cnd (vB p5 0=true) (some [.bool false]) (cnd ((a3==0)=true) (cnd ((a4==0)=true) (some [.bool true]) (Option.bind (AB C n 98 [tI a4,tI 1,tI 4096])
 fun y12=>cnd (length y12=1) (cnd (okB y12 0) (cnd (gB y12 0=true) (Option.bind (AB C n 98 [tI a3,tI 0,tI (w64 (a4-(1:Int)))]) fun y13=>cnd (length y13 =
 1) (cnd (okB y13 0) (some [.bool (gB y13 0)]) none) none) (some [.bool false])) none) none)) (Option.bind (AB C n 98 [tI a4,tI 1,tI 4096]) fun y14=>cnd
 (length y14=1) (cnd (okB y14 0) (cnd (gB y14 0=true) (Option.bind (AB C n 98 [tI a3,tI 0,tI (w64 (a4-(1:Int)))]) fun y15=>cnd (length y15=1) (cnd (okB
 y15 0) (some [.bool (gB y15 0)]) none) none) (some [.bool false])) none) none))
theorem e100 (n:Nat) (a0:Int) (a1:Int) (a2:Int) (a3:Int) (a4:Int):AB C (n+1) 100 [tI a0,tI a1,tI a2,tI a3,tI a4]=
 join (fun (p5:List AV×Heap)=>Q5 n a3 a4 p5) fun (again6:_→Option (List Tree))=>Option.bind (AB C n 98 [tI a0,tI 0,tI 15]) fun y7=>cnd (length y7 =
 1) (cnd (okB y7 0) (cnd ((!(gB y7 0))=true) (again6 ([.t (.bool true)],[])) (Option.bind (AB C n 98 [tI a1,tI 0,tI 1099511627776]) fun y8=>cnd (length y8 =
 1) (cnd (okB y8 0) (cnd ((!(gB y8 0))=true) (again6 ([.t (.bool true)],[])) (Option.bind (AB C n 98 [tI a2,tI 0,tI 1099511627776]) fun y9=>cnd (length y9 =
 1) (cnd (okB y9 0) (again6 ([.t (.bool (!(gB y9 0)))],[])) none) none)) none) none)) none) none:=by kernel_rfl
theorem e102 (n:Nat) (a0:List (List Tree)) (a1:Int) (a2:Int) (a3:Int) (a4:Int) (a5:Int) (a6:Int) (a7:Int) (a8:Int) (a9:Int) (a10:Bool) (a11:ByteArray):AB C (n+1) 102 [.sl 11 a0,tI a1,tI a2,tI a3,tI a4,tI a5,tI a6,tI a7,tI a8,tI a9,.bool a10,.str a11]=
 Option.bind (AB C n 108 [.sl 11 a0,tI a2,tI a3,tI a4,tI a5,tI a6]) fun y12=>cnd (length y12=1) (cnd (okI y12 0) (cnd (decide (gI y12 0≥(0:Int))=true) (some
 [.sl 11 a0]) (Option.bind (AB C n 1000109 [.sl 11 a0]) fun y13=>cnd (length y13=1∧okL 11 y13 0) (cnd (0=0∧(11=11∨11
 = 0)∧0+(length (gL y13 0))≤length (gL y13 0)∧(length (gL y13 0))+1≤1073741824) (some [.sl 11 (take ((length (gL y13 0)) +
 1) ((take (length (gL y13 0)) (gL y13 0))++[[tI a1,tI a2,tI a3,tI a4,tI a5,tI a6,tI a7,tI a8,tI a9,.bool a10,.str a11]]))]) none) none)) none) none:=by kernel_rfl
noncomputable def Q3 (n:Nat) (a0:List (List Tree)) (a1:Int) (a2:Int) (a3:Int) (a4:Int) (a5:Int) (again7:(List AV×Heap)→Option (List Tree)) (p8:List AV×Heap) (again9:(List AV×Heap)→Option (List Tree)):Option (List Tree):=
 cnd (decide (vI p8 0<((length a0:Nat):Int))=true) (cnd (11=11∧(0:Int)≤vI p8 0) (Option.bind a0[toNat (vI p8 0)]? fun y10=>cnd (okI y10 0) (cnd (okI y10 1) (cnd (okI
 y10 2) (cnd (okI y10 3) (cnd (okI y10 4) (cnd (okI y10 5) (cnd (okI y10 6) (cnd (okI y10 7) (cnd (okI y10 8) (cnd (okB y10 9) (cnd (okS y10 10) (cnd (((((((gI y10 1)==a1)&&((gI y10 2)==a2)) &&
 ((gI y10 3)==a3))&&((gI y10 4)==a4))&&((gI y10 5)==a5))=true) (again7 ([.t (tI (vI p8 0))],[])) (again9 ([.t (tI (w64 ((vI p8 0)+1)))],[]))) none) none) none) none) none)
 none) none) none) none) none) none) none) (again7 ([.t (tI (-1))],[]))
noncomputable def Vs (n:Nat)  (p6:List AV×Heap):Option (List Tree):=
 some [tI (vI p6 0)]
theorem e108 (n:Nat) (a0:List (List Tree)) (a1:Int) (a2:Int) (a3:Int) (a4:Int) (a5:Int):AB C (n+1) 108 [.sl 11 a0,tI a1,tI a2,tI a3,tI a4,tI a5]=
 join (fun (p6:List AV×Heap)=>Vs n p6) fun (again7:_→Option (List Tree))=>AH (fun (p8:List AV×Heap) (again9:_→Option (List Tree))=>Q3 n a0 a1 a2 a3 a4 a5 again7 p8
 again9) n ([.t (tI 0)],[]):=by kernel_rfl
theorem e127 (n:Nat) (a0:Int) (a1:Int) (a2:ByteArray):AB C (n+1) 127 [tI a0,tI a1,.str a2]=
 cnd (decide (a0<1)=true) (some [tI 8]) (cnd (decide (a0>255)=true) (some [tI 8]) (cnd (decide (a1<0)=true) (some [tI 2]) (cnd (decide (a1>15)=
 true) (some [tI 2]) (cnd (decide (((ByteArray.size a2:Nat):Int)>1024)=true) (some [tI 4]) (some [tI 0]))))):=by kernel_rfl
theorem e129 (n:Nat) (a0:ByteArray):AB C (n+1) 129 [.str a0]=
 Option.bind (AB C n 186 [.int IntKind.u32 (4294967295:Int),.str a0]) fun y1=>cnd (length y1=1) (cnd (Ce IntKind.u32 (List.getD y1 0 default)=true) (some
 [tI (w64 (Ck IntKind.u32 (gI y1 0) (4294967295:Int)))]) none) none:=by kernel_rfl
theorem e130 (n:Nat) (a0:Int) (a1:Int):AB C (n+1) 130 [tI a0,tI a1]=
 cnd (decide (a0<a1)=true) (cnd (decide (a0≥(-1152921504606846976:Int))=true) (some [.bool (decide (a1≤1152921504606846976))]) (some [.bool false])) (some [.bool false]):=by kernel_rfl
noncomputable def N8 (n:Nat) (again23:(List AV×Heap)→Option (List Tree)) (p30:List AV×Heap):Option (List Tree):=
 again23 ([],[.box [.func (Fn.func 188) [] []],.row false (AF p30 1) 2 (oEs p30 1),.box [.sref 1 (AJ p30 2 0) (AK p30 2 0) (AI p30 2 0)],.box [AV.t
 (Tree.bool (cB p30 3 0))],.box [],.box [.t (.sl 2 (cL p30 5 0)),.t (tI (cI p30 5 1)),.t (.bool (!(cB p30 5 2)))],.box [.t (.sl 2 (cL p30 6 0)),AV.t
 (tI (cI p30 6 1)),.t (.bool (cB p30 6 2))]])
noncomputable def N7 (n:Nat) (again23:(List AV×Heap)→Option (List Tree)) (p28:List AV×Heap):Option (List Tree):=
 cnd (vB p28 0=true) (again23 ([],[.box [.func (Fn.func 188) [] []],.row false (AF p28 1) 2 (oEs p28 1),.box [.sref 1 (AJ p28 2 0) (AK p28 2 0) (AI p28 2 0)],
 .box [.t (.bool (cB p28 3 0))],.box [],.box [.t (.sl 2 (cL p28 5 0)),.t (tI (cI p28 5 1)),.t (.bool (cB p28 5 2))],.box [.t (.sl 2 (cL p28 6
 0)),.t (tI (cI p28 6 1)),.t (.bool (cB p28 6 2))]])) (join (fun (p30:List AV×Heap)=>N8 n again23 p30) fun (again31:_→Option (List Tree))=>cnd (cB p28 5 2=true) (again31
 ([],[.box [.func (Fn.func 188) [] []],.row false (AF p28 1) 2 (oEs p28 1),.box [.sref 1 (AJ p28 2 0) (AK p28 2 0) (AI p28 2 0)],.box [.t (.bool (cB
 p28 3 0))],.box [],.box [.t (.sl 2 (cL p28 5 0)),.t (tI (w64 ((cI p28 5 1)+1))),.t (.bool (cB p28 5 2))],.box [.t (.sl 2 (cL p28 6 0)),AV.t
 (tI (cI p28 6 1)),.t (.bool (cB p28 6 2))]])) (again31 ([],[.box [.func (Fn.func 188) [] []],.row false (AF p28 1) 2 (oEs p28 1),.box [.sref 1 (AJ p28 2 0)
 (AK p28 2 0) (AI p28 2 0)],.box [.t (.bool (cB p28 3 0))],.box [],.box [.t (.sl 2 (cL p28 5 0)),.t (tI (cI p28 5 1)),.t (.bool (cB p28 5 2))],.box
 [.t (.sl 2 (cL p28 6 0)),.t (tI (cI p28 6 1)),.t (.bool (cB p28 6 2))]])))
noncomputable def N6 (n:Nat) (again23:(List AV×Heap)→Option (List Tree)) (p20:List AV×Heap) (p24:List AV×Heap):Option (List Tree):=
 join (fun (p28:List AV×Heap)=>N7 n again23 p28) fun (again29:_→Option (List Tree))=>cnd ((!(vB p24 1))=true) (again29 ([.t (.bool true)],[.box [.func (Fn.func 188) []
 []],.row false (AF p24 1) 2 (oEs p24 1),.box [.sref 1 (AJ p24 2 0) (AK p24 2 0) (AI p24 2 0)],.box [.t (.bool (cB p24 3 0))],.box [],.box [AV.t
 (Tree.sl 2 (cL p24 5 0)),.t (tI (cI p24 5 1)),.t (.bool (cB p24 5 2))],.box [.t (.sl 2 (cL p24 6 0)),.t (tI (cI p24 6 1)),.t (.bool (cB p24 6 2))]]))
 (again29 ([.t (.bool ((vI p24 0) != (vI p20 0)))],[.box [.func (Fn.func 188) [] []],.row false (AF p24 1) 2 (oEs p24 1),.box [.sref 1 (AJ p24 2 0) (AK p24 2
 0) (AI p24 2 0)],.box [.t (.bool (cB p24 3 0))],.box [],.box [.t (.sl 2 (cL p24 5 0)),.t (tI (cI p24 5 1)),.t (.bool (cB p24 5 2))],.box [AV.t
 (Tree.sl 2 (cL p24 6 0)),.t (tI (cI p24 6 1)),.t (.bool (cB p24 6 2))]]))
noncomputable def N5 (n:Nat) (again33:(List AV×Heap)→Option (List Tree)) (p40:List AV×Heap):Option (List Tree):=
 again33 ([],[.box [.func (Fn.func 188) [] []],.row false (AF p40 1) 2 (oEs p40 1),.box [.sref 1 (AJ p40 2 0) (AK p40 2 0) (AI p40 2 0)],.box [AV.t
 (Tree.bool (cB p40 3 0))],.box [],.box [.t (.sl 2 (cL p40 5 0)),.t (tI (cI p40 5 1)),.t (.bool (cB p40 5 2))],.box [.t (.sl 2 (cL p40 6 0)),.t (tI
 (cI p40 6 1)),.t (.bool (!(cB p40 6 2)))]])
noncomputable def N4 (n:Nat) (again33:(List AV×Heap)→Option (List Tree)) (p38:List AV×Heap):Option (List Tree):=
 cnd (vB p38 0=true) (again33 ([],[.box [.func (Fn.func 188) [] []],.row false (AF p38 1) 2 (oEs p38 1),.box [.sref 1 (AJ p38 2 0) (AK p38 2 0) (AI p38 2 0)],
 .box [.t (.bool (cB p38 3 0))],.box [],.box [.t (.sl 2 (cL p38 5 0)),.t (tI (cI p38 5 1)),.t (.bool (cB p38 5 2))],.box [.t (.sl 2 (cL p38 6
 0)),.t (tI (cI p38 6 1)),.t (.bool (cB p38 6 2))]])) (join (fun (p40:List AV×Heap)=>N5 n again33 p40) fun (again41:_→Option (List Tree))=>cnd (cB p38 6 2=true) (again41
 ([],[.box [.func (Fn.func 188) [] []],.row false (AF p38 1) 2 (oEs p38 1),.box [.sref 1 (AJ p38 2 0) (AK p38 2 0) (AI p38 2 0)],.box [.t (.bool (cB
 p38 3 0))],.box [],.box [.t (.sl 2 (cL p38 5 0)),.t (tI (cI p38 5 1)),.t (.bool (cB p38 5 2))],.box [.t (.sl 2 (cL p38 6 0)),.t (tI (w64 ((cI p38 6
 1)+1))),.t (.bool (cB p38 6 2))]])) (again41 ([],[.box [.func (Fn.func 188) [] []],.row false (AF p38 1) 2 (oEs p38 1),.box [.sref 1 (AJ p38 2 0)
 (AK p38 2 0) (AI p38 2 0)],.box [.t (.bool (cB p38 3 0))],.box [],.box [.t (.sl 2 (cL p38 5 0)),.t (tI (cI p38 5 1)),.t (.bool (cB p38 5 2))],.box
 [.t (.sl 2 (cL p38 6 0)),.t (tI (cI p38 6 1)),.t (.bool (cB p38 6 2))]])))
noncomputable def N3 (n:Nat) (again33:(List AV×Heap)→Option (List Tree)) (p20:List AV×Heap) (p34:List AV×Heap):Option (List Tree):=
 join (fun (p38:List AV×Heap)=>N4 n again33 p38) fun (again39:_→Option (List Tree))=>cnd ((!(vB p34 1))=true) (again39 ([.t (.bool true)],[.box [.func (Fn.func 188) []
 []],.row false (AF p34 1) 2 (oEs p34 1),.box [.sref 1 (AJ p34 2 0) (AK p34 2 0) (AI p34 2 0)],.box [.t (.bool (cB p34 3 0))],.box [],.box [AV.t
 (Tree.sl 2 (cL p34 5 0)),.t (tI (cI p34 5 1)),.t (.bool (cB p34 5 2))],.box [.t (.sl 2 (cL p34 6 0)),.t (tI (cI p34 6 1)),.t (.bool (cB p34 6 2))]]))
 (again39 ([.t (.bool ((vI p34 0) != (vI p20 0)))],[.box [.func (Fn.func 188) [] []],.row false (AF p34 1) 2 (oEs p34 1),.box [.sref 1 (AJ p34 2 0) (AK p34 2
 0) (AI p34 2 0)],.box [.t (.bool (cB p34 3 0))],.box [],.box [.t (.sl 2 (cL p34 5 0)),.t (tI (cI p34 5 1)),.t (.bool (cB p34 5 2))],.box [AV.t
 (Tree.sl 2 (cL p34 6 0)),.t (tI (cI p34 6 1)),.t (.bool (cB p34 6 2))]]))
noncomputable def L0 (n:Nat) (again46:(List AV×Heap)→Option (List Tree)) (p49:List AV×Heap):Option (List Tree):=
 again46 ([],[.box [.func (Fn.func 188) [] []],.row false (AF p49 1) 2 (oEs p49 1),.box [.sref 1 (AJ p49 2 0) (AK p49 2 0) (AI p49 2 0)],.box [AV.t
 (Tree.bool (cB p49 3 0))],.box [],.box [.t (.sl 2 (cL p49 5 0)),.t (tI (cI p49 5 1)),.t (.bool (cB p49 5 2))],.box [.t (.sl 2 (cL p49 6 0)),.t (tI
 (cI p49 6 1)),.t (.bool (cB p49 6 2))],.box [.t (.bool (cB p49 7 0)),.t (.bool (cB p49 7 1))]])
noncomputable def Ly (n:Nat) (again46:(List AV×Heap)→Option (List Tree)) (p20:List AV×Heap) (p47:List AV×Heap):Option (List Tree):=
 join (fun (p49:List AV×Heap)=>L0 n again46 p49) fun (again50:_→Option (List Tree))=>cnd (vB p47 0=true) (cnd (AF p47 1=AJ p47 2 0) (cnd (AF p47 1=AJ p47 2 0∧2 =
 2∧(0:Int)≤w64 (((AI p47 2 0:Nat):Int)-(1:Int))∧w64 (((AI p47 2 0:Nat):Int)-(1:Int))<((AI p47 2 0:Nat):Int)) (cnd (AF p47 1=AJ p47 2 0) (cnd (AF p47 1=AJ p47 2 0∧
 2≤2) (Option.bind (oEs p47 1)[(AK p47 2 0)+(toNat (w64 (((AI p47 2 0:Nat):Int)-(1:Int))))]? fun y51=>again50 ([],[.box [.func (Fn.func 188) [] []],.row false
 (AJ p47 2 0) 2 (List.set (oEs p47 1) ((AK p47 2 0)+(toNat (w64 (((AI p47 2 0:Nat):Int)-(1:Int))))) (take 1 y51++([tI (vI p20 0)]++drop 2 y51))),.box
 [.sref 1 (AJ p47 2 0) (AK p47 2 0) (AI p47 2 0)],.box [.t (.bool (cB p47 3 0))],.box [],.box [.t (.sl 2 (cL p47 5 0)),.t (tI (cI p47 5 1)),AV.t
 (Tree.bool (cB p47 5 2))],.box [.t (.sl 2 (cL p47 6 0)),.t (tI (cI p47 6 1)),.t (.bool (cB p47 6 2))],.box [.t (.bool (cB p47 7 0)),.t (.bool (cB p47 7
 1))]])) none) none) none) none) (again50 ([],[.box [.func (Fn.func 188) [] []],.row false (AF p47 1) 2 (oEs p47 1),.box [.sref 1 (AJ p47 2 0) (AK p47 2 0) (AI
 p47 2 0)],.box [.t (.bool (cB p47 3 0))],.box [],.box [.t (.sl 2 (cL p47 5 0)),.t (tI (cI p47 5 1)),.t (.bool (cB p47 5 2))],.box [.t (.sl 2
 (cL p47 6 0)),.t (tI (cI p47 6 1)),.t (.bool (cB p47 6 2))],.box [.t (.bool (cB p47 7 0)),.t (.bool (cB p47 7 1))]]))
noncomputable def Lx (n:Nat) (again7:(List AV×Heap)→Option (List Tree)) (y42:List Tree) (p45:List AV×Heap):Option (List Tree):=
 again7 ([],[.box [.func (Fn.func 188) [] []],.row false (AF p45 1) 2 (oEs p45 1),.box [.sref 1 (AJ p45 2 0) (AK p45 2 0) (AI p45 2 0)],.box [.t (.bool
 (gB y42 0))],.box [],.box [.t (.sl 2 (cL p45 5 0)),.t (tI (cI p45 5 1)),.t (.bool (cB p45 5 2))],.box [.t (.sl 2 (cL p45 6 0)),.t (tI (cI p45 6 1)),
 .t (.bool (cB p45 6 2))]])
noncomputable def JC (n:Nat) (again7:(List AV×Heap)→Option (List Tree)) (y42:List Tree) (p20:List AV×Heap) (p43:List AV×Heap):Option (List Tree):=
 join (fun (p45:List AV×Heap)=>Lx n again7 y42 p45) fun (again46:_→Option (List Tree))=>cnd (vB p43 0=true) (cnd (AF p43 1=AJ p43 2 0∧(2=2∨2=0)∧
 (AK p43 2 0)+(AI p43 2 0)≤length (oEs p43 1)∧(AI p43 2 0)+1≤1073741824) (again46 ([],[.box [.func (Fn.func 188) [] []],.row false ((AJ p43 2 0) +
 1) 2 ((take (AI p43 2 0) (drop (AK p43 2 0) (oEs p43 1)))++[[tI (vI p20 0),tI 0]]),.box [.sref 1 ((AJ p43 2 0)+1) 0 ((AI p43 2 0) +
 1)],.box [.t (.bool (cB p43 3 0))],.box [],.box [.t (.sl 2 (cL p43 5 0)),.t (tI (cI p43 5 1)),.t (.bool (cB p43 5 2))],.box [.t (.sl 2
 (cL p43 6 0)),.t (tI (cI p43 6 1)),.t (.bool (cB p43 6 2))],.box [.t (.bool (cB p43 7 0)),.t (.bool (cB p43 7 1))]])) none) (join (fun (p47:List AV×Heap)=>Ly n
 again46 p20 p47) fun (again48:_→Option (List Tree))=>cnd ((!(gB y42 0))=true) (again48 ([.t (.bool (cB p43 3 0))],[.box [.func (Fn.func 188) [] []],.row false (AF p43 1)
 2 (oEs p43 1),.box [.sref 1 (AJ p43 2 0) (AK p43 2 0) (AI p43 2 0)],.box [.t (.bool (cB p43 3 0))],.box [],.box [.t (.sl 2 (cL p43 5 0)),AV.t
 (tI (cI p43 5 1)),.t (.bool (cB p43 5 2))],.box [.t (.sl 2 (cL p43 6 0)),.t (tI (cI p43 6 1)),.t (.bool (cB p43 6 2))],.box [.t (.bool (cB p43 7 0)),AV.t
 (Tree.bool (cB p43 7 1))]])) (again48 ([.t (.bool false)],[.box [.func (Fn.func 188) [] []],.row false (AF p43 1) 2 (oEs p43 1),.box [.sref 1 (AJ p43 2 0)
 (AK p43 2 0) (AI p43 2 0)],.box [.t (.bool (cB p43 3 0))],.box [],.box [.t (.sl 2 (cL p43 5 0)),.t (tI (cI p43 5 1)),.t (.bool (cB p43 5 2))],.box
 [.t (.sl 2 (cL p43 6 0)),.t (tI (cI p43 6 1)),.t (.bool (cB p43 6 2))],.box [.t (.bool (cB p43 7 0)),.t (.bool (cB p43 7 1))]])))
noncomputable def Fw (n:Nat) (again7:(List AV×Heap)→Option (List Tree)) (p20:List AV×Heap) (p32:List AV×Heap):Option (List Tree):=
 Option.bind (AB C n 188 [.bool (cB p32 5 2),.bool (cB p32 6 2)]) fun y42=>cnd (length y42=1) (cnd (okB y42 0) (join (fun (p43:List AV×Heap)=>JC n again7 y42
 p20 p43) fun (again44:_→Option (List Tree))=>cnd (gB y42 0=true) (again44 ([.t (.bool (!(cB p32 3 0)))],[.box [.func (Fn.func 188) [] []],.row false (AF p32 1) 2 (oEs
 p32 1),.box [.sref 1 (AJ p32 2 0) (AK p32 2 0) (AI p32 2 0)],.box [.t (.bool (cB p32 3 0))],.box [],.box [.t (.sl 2 (cL p32 5 0)),.t (tI (cI p32
 5 1)),.t (.bool (cB p32 5 2))],.box [.t (.sl 2 (cL p32 6 0)),.t (tI (cI p32 6 1)),.t (.bool (cB p32 6 2))],.box [.t (.bool (cB p32 5 2)),.t (.bool
 (cB p32 6 2))]])) (again44 ([.t (.bool false)],[.box [.func (Fn.func 188) [] []],.row false (AF p32 1) 2 (oEs p32 1),.box [.sref 1 (AJ p32 2 0) (AK p32 2 0)
 (AI p32 2 0)],.box [.t (.bool (cB p32 3 0))],.box [],.box [.t (.sl 2 (cL p32 5 0)),.t (tI (cI p32 5 1)),.t (.bool (cB p32 5 2))],.box [.t (.sl
 2 (cL p32 6 0)),.t (tI (cI p32 6 1)),.t (.bool (cB p32 6 2))],.box [.t (.bool (cB p32 5 2)),.t (.bool (cB p32 6 2))]]))) none) none
noncomputable def HK (n:Nat) (again7:(List AV×Heap)→Option (List Tree)) (p20:List AV×Heap) (p22:List AV×Heap):Option (List Tree):=
 join (fun (p32:List AV×Heap)=>Fw n again7 p20 p32) fun (again33:_→Option (List Tree))=>join (fun (p34:List AV×Heap)=>N3 n again33 p20 p34) fun (again35:_→Option (List
 Tree))=>cnd (((cI p22 6 1)==((length (cL p22 6 0):Nat):Int))=true) (again35 ([.t (tI 0),.t (.bool false)],[.box [.func (Fn.func 188) [] []],.row false (AF p22
 1) 2 (oEs p22 1),.box [.sref 1 (AJ p22 2 0) (AK p22 2 0) (AI p22 2 0)],.box [.t (.bool (cB p22 3 0))],.box [],.box [.t (.sl 2 (cL p22 5 0)),
 .t (tI (cI p22 5 1)),.t (.bool (cB p22 5 2))],.box [.t (.sl 2 (cL p22 6 0)),.t (tI (cI p22 6 1)),.t (.bool (cB p22 6 2))]])) (cnd (cB p22 6 2=true) (cnd (2
 = 2∧(0:Int)≤cI p22 6 1) (Option.bind (cL p22 6 0)[toNat (cI p22 6 1)]? fun y36=>cnd (okI y36 1) (again35 ([.t (tI (gI y36 1)),.t (.bool true)],[.box [.func (Fn.func
 188) [] []],.row false (AF p22 1) 2 (oEs p22 1),.box [.sref 1 (AJ p22 2 0) (AK p22 2 0) (AI p22 2 0)],.box [.t (.bool (cB p22 3 0))],.box [],.box
 [.t (.sl 2 (cL p22 5 0)),.t (tI (cI p22 5 1)),.t (.bool (cB p22 5 2))],.box [.t (.sl 2 (cL p22 6 0)),.t (tI (cI p22 6 1)),.t (.bool (cB p22 6 2))]]))
 none) none) (cnd (2=2∧(0:Int)≤cI p22 6 1) (Option.bind (cL p22 6 0)[toNat (cI p22 6 1)]? fun y37=>cnd (okI y37 0) (again35 ([.t (tI (gI y37 0)),.t (.bool true)],
 [.box [.func (Fn.func 188) [] []],.row false (AF p22 1) 2 (oEs p22 1),.box [.sref 1 (AJ p22 2 0) (AK p22 2 0) (AI p22 2 0)],.box [.t (.bool (cB p22 3
 0))],.box [],.box [.t (.sl 2 (cL p22 5 0)),.t (tI (cI p22 5 1)),.t (.bool (cB p22 5 2))],.box [.t (.sl 2 (cL p22 6 0)),.t (tI (cI p22 6 1)),AV.t
 (Tree.bool (cB p22 6 2))]])) none) none))
noncomputable def HJ (n:Nat) (again7:(List AV×Heap)→Option (List Tree)) (p20:List AV×Heap):Option (List Tree):=
 join (fun (p22:List AV×Heap)=>HK n again7 p20 p22) fun (again23:_→Option (List Tree))=>join (fun (p24:List AV×Heap)=>N6 n again23 p20 p24) fun (again25:_→Option (List
 Tree))=>cnd (((cI p20 5 1)==((length (cL p20 5 0):Nat):Int))=true) (again25 ([.t (tI 0),.t (.bool false)],[.box [.func (Fn.func 188) [] []],.row false (AF p20
 1) 2 (oEs p20 1),.box [.sref 1 (AJ p20 2 0) (AK p20 2 0) (AI p20 2 0)],.box [.t (.bool (cB p20 3 0))],.box [],.box [.t (.sl 2 (cL p20 5 0)),
 .t (tI (cI p20 5 1)),.t (.bool (cB p20 5 2))],.box [.t (.sl 2 (cL p20 6 0)),.t (tI (cI p20 6 1)),.t (.bool (cB p20 6 2))]])) (cnd (cB p20 5 2=true) (cnd (2
 = 2∧(0:Int)≤cI p20 5 1) (Option.bind (cL p20 5 0)[toNat (cI p20 5 1)]? fun y26=>cnd (okI y26 1) (again25 ([.t (tI (gI y26 1)),.t (.bool true)],[.box [.func (Fn.func
 188) [] []],.row false (AF p20 1) 2 (oEs p20 1),.box [.sref 1 (AJ p20 2 0) (AK p20 2 0) (AI p20 2 0)],.box [.t (.bool (cB p20 3 0))],.box [],.box
 [.t (.sl 2 (cL p20 5 0)),.t (tI (cI p20 5 1)),.t (.bool (cB p20 5 2))],.box [.t (.sl 2 (cL p20 6 0)),.t (tI (cI p20 6 1)),.t (.bool (cB p20 6 2))]]))
 none) none) (cnd (2=2∧(0:Int)≤cI p20 5 1) (Option.bind (cL p20 5 0)[toNat (cI p20 5 1)]? fun y27=>cnd (okI y27 0) (again25 ([.t (tI (gI y27 0)),.t (.bool true)],
 [.box [.func (Fn.func 188) [] []],.row false (AF p20 1) 2 (oEs p20 1),.box [.sref 1 (AJ p20 2 0) (AK p20 2 0) (AI p20 2 0)],.box [.t (.bool (cB p20 3
 0))],.box [],.box [.t (.sl 2 (cL p20 5 0)),.t (tI (cI p20 5 1)),.t (.bool (cB p20 5 2))],.box [.t (.sl 2 (cL p20 6 0)),.t (tI (cI p20 6 1)),AV.t
 (Tree.bool (cB p20 6 2))]])) none) none))
noncomputable def KS (n:Nat) (again7:(List AV×Heap)→Option (List Tree)) (p12:List AV×Heap) (p8:List AV×Heap) (p18:List AV×Heap):Option (List Tree):=
 join (fun (p20:List AV×Heap)=>HJ n again7 p20) fun (again21:_→Option (List Tree))=>cnd (vB p18 0=true) (again21 ([.t (tI (vI p12 0))],[.box [.func (Fn.func 188) [] []],
 .row false (AF p18 1) 2 (oEs p18 1),.box [.sref 1 (AJ p18 2 0) (AK p18 2 0) (AI p18 2 0)],.box [.t (.bool (cB p18 3 0))],.box [],.box [.t (.sl
 2 (cL p18 5 0)),.t (tI (cI p18 5 1)),.t (.bool (cB p18 5 2))],.box [.t (.sl 2 (cL p18 6 0)),.t (tI (cI p18 6 1)),.t (.bool (cB p18 6 2))]])) (again21 ([AV.t
 (tI (vI p8 0))],[.box [.func (Fn.func 188) [] []],.row false (AF p18 1) 2 (oEs p18 1),.box [.sref 1 (AJ p18 2 0) (AK p18 2 0) (AI p18 2 0)],.box [AV.t
 (Tree.bool (cB p18 3 0))],.box [],.box [.t (.sl 2 (cL p18 5 0)),.t (tI (cI p18 5 1)),.t (.bool (cB p18 5 2))],.box [.t (.sl 2 (cL p18 6 0)),.t (tI
 (cI p18 6 1)),.t (.bool (cB p18 6 2))]]))
noncomputable def JB (n:Nat) (again7:(List AV×Heap)→Option (List Tree)) (p12:List AV×Heap) (p8:List AV×Heap) (p16:List AV×Heap):Option (List Tree):=
 cnd (vB p16 0=true) (cnd (AF p16 1=AJ p16 2 0) (cnd (decide (((AI p16 2 0:Nat):Int)>1000)=true) (some [.sl 2 [],tI 4]) (cnd ((false=true∨false=false)∧AF
 p16 1=AJ p16 2 0∧(2=2∨2=0)) (some [.sl 2 (take (AI p16 2 0) (drop (AK p16 2 0) (oEs p16 1))),tI 0]) none)) none) (join (fun (p18 :
 List AV×Heap)=>KS n again7 p12 p8 p18) fun (again19:_→Option (List Tree))=>cnd ((!(vB p8 1))=true) (again19 ([.t (.bool true)],[.box [.func (Fn.func 188) [] []],.row
 false (AF p16 1) 2 (oEs p16 1),.box [.sref 1 (AJ p16 2 0) (AK p16 2 0) (AI p16 2 0)],.box [.t (.bool (cB p16 3 0))],.box [],.box [.t (.sl 2
 (cL p16 5 0)),.t (tI (cI p16 5 1)),.t (.bool (cB p16 5 2))],.box [.t (.sl 2 (cL p16 6 0)),.t (tI (cI p16 6 1)),.t (.bool (cB p16 6 2))]])) (cnd (vB p12 1=true)
 (again19 ([.t (.bool (decide (vI p12 0<vI p8 0)))],[.box [.func (Fn.func 188) [] []],.row false (AF p16 1) 2 (oEs p16 1),.box [.sref 1 (AJ p16 2 0) (AK p16
 2 0) (AI p16 2 0)],.box [.t (.bool (cB p16 3 0))],.box [],.box [.t (.sl 2 (cL p16 5 0)),.t (tI (cI p16 5 1)),.t (.bool (cB p16 5 2))],.box [AV.t
 (Tree.sl 2 (cL p16 6 0)),.t (tI (cI p16 6 1)),.t (.bool (cB p16 6 2))]])) (again19 ([.t (.bool false)],[.box [.func (Fn.func 188) [] []],.row false (AF p16 1)
 2 (oEs p16 1),.box [.sref 1 (AJ p16 2 0) (AK p16 2 0) (AI p16 2 0)],.box [.t (.bool (cB p16 3 0))],.box [],.box [.t (.sl 2 (cL p16 5 0)),AV.t
 (tI (cI p16 5 1)),.t (.bool (cB p16 5 2))],.box [.t (.sl 2 (cL p16 6 0)),.t (tI (cI p16 6 1)),.t (.bool (cB p16 6 2))]]))))
noncomputable def Fv (n:Nat) (again7:(List AV×Heap)→Option (List Tree)) (p8:List AV×Heap) (p12:List AV×Heap):Option (List Tree):=
 join (fun (p16:List AV×Heap)=>JB n again7 p12 p8 p16) fun (again17:_→Option (List Tree))=>cnd ((!(vB p8 1))=true) (again17 ([.t (.bool (!(vB p12 1)))],[.box [.func
 (Fn.func 188) [] []],.row false (AF p12 1) 2 (oEs p12 1),.box [.sref 1 (AJ p12 2 0) (AK p12 2 0) (AI p12 2 0)],.box [.t (.bool (cB p12 3 0))],.box [],
 .box [.t (.sl 2 (cL p12 5 0)),.t (tI (cI p12 5 1)),.t (.bool (cB p12 5 2))],.box [.t (.sl 2 (cL p12 6 0)),.t (tI (cI p12 6 1)),.t (.bool (cB p12 6
 2))]])) (again17 ([.t (.bool false)],[.box [.func (Fn.func 188) [] []],.row false (AF p12 1) 2 (oEs p12 1),.box [.sref 1 (AJ p12 2 0) (AK p12 2 0) (AI p12
 2 0)],.box [.t (.bool (cB p12 3 0))],.box [],.box [.t (.sl 2 (cL p12 5 0)),.t (tI (cI p12 5 1)),.t (.bool (cB p12 5 2))],.box [.t (.sl 2 (cL
 p12 6 0)),.t (tI (cI p12 6 1)),.t (.bool (cB p12 6 2))]]))
noncomputable def JA (n:Nat) (again7:(List AV×Heap)→Option (List Tree)) (p8:List AV×Heap):Option (List Tree):=
 join (fun (p12:List AV×Heap)=>Fv n again7 p8 p12) fun (again13:_→Option (List Tree))=>cnd (((cI p8 6 1)==((length (cL p8 6 0):Nat):Int))=true) (again13 ([.t (tI 0),
 .t (.bool false)],[.box [.func (Fn.func 188) [] []],.row false (AF p8 1) 2 (oEs p8 1),.box [.sref 1 (AJ p8 2 0) (AK p8 2 0) (AI p8 2 0)],.box [AV.t
 (Tree.bool (cB p8 3 0))],.box [],.box [.t (.sl 2 (cL p8 5 0)),.t (tI (cI p8 5 1)),.t (.bool (cB p8 5 2))],.box [.t (.sl 2 (cL p8 6 0)),.t (tI (cI p8
 6 1)),.t (.bool (cB p8 6 2))]])) (cnd (cB p8 6 2=true) (cnd (2=2∧(0:Int)≤cI p8 6 1) (Option.bind (cL p8 6 0)[toNat (cI p8 6 1)]? fun y14=>cnd (okI y14 1) (again13
 ([.t (tI (gI y14 1)),.t (.bool true)],[.box [.func (Fn.func 188) [] []],.row false (AF p8 1) 2 (oEs p8 1),.box [.sref 1 (AJ p8 2 0) (AK p8 2 0) (AI p8 2
 0)],.box [.t (.bool (cB p8 3 0))],.box [],.box [.t (.sl 2 (cL p8 5 0)),.t (tI (cI p8 5 1)),.t (.bool (cB p8 5 2))],.box [.t (.sl 2 (cL p8 6
 0)),.t (tI (cI p8 6 1)),.t (.bool (cB p8 6 2))]])) none) none) (cnd (2=2∧(0:Int)≤cI p8 6 1) (Option.bind (cL p8 6 0)[toNat (cI p8 6 1)]? fun y15=>cnd (okI y15 0)
 (again13 ([.t (tI (gI y15 0)),.t (.bool true)],[.box [.func (Fn.func 188) [] []],.row false (AF p8 1) 2 (oEs p8 1),.box [.sref 1 (AJ p8 2 0) (AK p8 2 0)
 (AI p8 2 0)],.box [.t (.bool (cB p8 3 0))],.box [],.box [.t (.sl 2 (cL p8 5 0)),.t (tI (cI p8 5 1)),.t (.bool (cB p8 5 2))],.box [.t (.sl
 2 (cL p8 6 0)),.t (tI (cI p8 6 1)),.t (.bool (cB p8 6 2))]])) none) none))
noncomputable def HE (n:Nat)  (p6:List AV×Heap) (again7:(List AV×Heap)→Option (List Tree)):Option (List Tree):=
 join (fun (p8:List AV×Heap)=>JA n again7 p8) fun (again9:_→Option (List Tree))=>cnd (((cI p6 5 1)==((length (cL p6 5 0):Nat):Int))=true) (again9 ([.t (tI 0),AV.t
 (Tree.bool false)],[.box [.func (Fn.func 188) [] []],.row false (AF p6 1) 2 (oEs p6 1),.box [.sref 1 (AJ p6 2 0) (AK p6 2 0) (AI p6 2 0)],.box [AV.t
 (Tree.bool (cB p6 3 0))],.box [],.box [.t (.sl 2 (cL p6 5 0)),.t (tI (cI p6 5 1)),.t (.bool (cB p6 5 2))],.box [.t (.sl 2 (cL p6 6 0)),.t (tI (cI p6
 6 1)),.t (.bool (cB p6 6 2))]])) (cnd (cB p6 5 2=true) (cnd (2=2∧(0:Int)≤cI p6 5 1) (Option.bind (cL p6 5 0)[toNat (cI p6 5 1)]? fun y10=>cnd (okI y10 1) (again9
 ([.t (tI (gI y10 1)),.t (.bool true)],[.box [.func (Fn.func 188) [] []],.row false (AF p6 1) 2 (oEs p6 1),.box [.sref 1 (AJ p6 2 0) (AK p6 2 0) (AI p6 2
 0)],.box [.t (.bool (cB p6 3 0))],.box [],.box [.t (.sl 2 (cL p6 5 0)),.t (tI (cI p6 5 1)),.t (.bool (cB p6 5 2))],.box [.t (.sl 2 (cL p6 6
 0)),.t (tI (cI p6 6 1)),.t (.bool (cB p6 6 2))]])) none) none) (cnd (2=2∧(0:Int)≤cI p6 5 1) (Option.bind (cL p6 5 0)[toNat (cI p6 5 1)]? fun y11=>cnd (okI y11 0)
 (again9 ([.t (tI (gI y11 0)),.t (.bool true)],[.box [.func (Fn.func 188) [] []],.row false (AF p6 1) 2 (oEs p6 1),.box [.sref 1 (AJ p6 2 0) (AK p6 2 0)
 (AI p6 2 0)],.box [.t (.bool (cB p6 3 0))],.box [],.box [.t (.sl 2 (cL p6 5 0)),.t (tI (cI p6 5 1)),.t (.bool (cB p6 5 2))],.box [.t (.sl
 2 (cL p6 6 0)),.t (tI (cI p6 6 1)),.t (.bool (cB p6 6 2))]])) none) none))
noncomputable def KR (n:Nat) (again69:(List AV×Heap)→Option (List Tree)) (p76:List AV×Heap):Option (List Tree):=
 again69 ([],[.box [.func (Fn.func 188) [] []],.row false (AF p76 1) 2 (oEs p76 1),.box [.sref 1 (AJ p76 2 0) (AK p76 2 0) (AI p76 2 0)],.box [AV.t
 (Tree.bool (cB p76 3 0))],.box [],.box [.t (.sl 2 (cL p76 5 0)),.t (tI (cI p76 5 1)),.t (.bool (cB p76 5 2))],.box [.t (.sl 2 (cL p76 6 0)),.t (tI
 (cI p76 6 1)),.t (.bool (!(cB p76 6 2)))]])
noncomputable def KQ (n:Nat) (again69:(List AV×Heap)→Option (List Tree)) (p74:List AV×Heap):Option (List Tree):=
 cnd (vB p74 0=true) (again69 ([],[.box [.func (Fn.func 188) [] []],.row false (AF p74 1) 2 (oEs p74 1),.box [.sref 1 (AJ p74 2 0) (AK p74 2 0) (AI p74 2 0)],
 .box [.t (.bool (cB p74 3 0))],.box [],.box [.t (.sl 2 (cL p74 5 0)),.t (tI (cI p74 5 1)),.t (.bool (cB p74 5 2))],.box [.t (.sl 2 (cL p74 6
 0)),.t (tI (cI p74 6 1)),.t (.bool (cB p74 6 2))]])) (join (fun (p76:List AV×Heap)=>KR n again69 p76) fun (again77:_→Option (List Tree))=>cnd (cB p74 6 2=true) (again77
 ([],[.box [.func (Fn.func 188) [] []],.row false (AF p74 1) 2 (oEs p74 1),.box [.sref 1 (AJ p74 2 0) (AK p74 2 0) (AI p74 2 0)],.box [.t (.bool (cB
 p74 3 0))],.box [],.box [.t (.sl 2 (cL p74 5 0)),.t (tI (cI p74 5 1)),.t (.bool (cB p74 5 2))],.box [.t (.sl 2 (cL p74 6 0)),.t (tI (w64 ((cI p74 6
 1)+1))),.t (.bool (cB p74 6 2))]])) (again77 ([],[.box [.func (Fn.func 188) [] []],.row false (AF p74 1) 2 (oEs p74 1),.box [.sref 1 (AJ p74 2 0)
 (AK p74 2 0) (AI p74 2 0)],.box [.t (.bool (cB p74 3 0))],.box [],.box [.t (.sl 2 (cL p74 5 0)),.t (tI (cI p74 5 1)),.t (.bool (cB p74 5 2))],.box
 [.t (.sl 2 (cL p74 6 0)),.t (tI (cI p74 6 1)),.t (.bool (cB p74 6 2))]])))
noncomputable def KP (n:Nat) (again69:(List AV×Heap)→Option (List Tree)) (p66:List AV×Heap) (p70:List AV×Heap):Option (List Tree):=
 join (fun (p74:List AV×Heap)=>KQ n again69 p74) fun (again75:_→Option (List Tree))=>cnd ((!(vB p70 1))=true) (again75 ([.t (.bool true)],[.box [.func (Fn.func 188) []
 []],.row false (AF p70 1) 2 (oEs p70 1),.box [.sref 1 (AJ p70 2 0) (AK p70 2 0) (AI p70 2 0)],.box [.t (.bool (cB p70 3 0))],.box [],.box [AV.t
 (Tree.sl 2 (cL p70 5 0)),.t (tI (cI p70 5 1)),.t (.bool (cB p70 5 2))],.box [.t (.sl 2 (cL p70 6 0)),.t (tI (cI p70 6 1)),.t (.bool (cB p70 6 2))]]))
 (again75 ([.t (.bool ((vI p70 0) != (vI p66 0)))],[.box [.func (Fn.func 188) [] []],.row false (AF p70 1) 2 (oEs p70 1),.box [.sref 1 (AJ p70 2 0) (AK p70 2
 0) (AI p70 2 0)],.box [.t (.bool (cB p70 3 0))],.box [],.box [.t (.sl 2 (cL p70 5 0)),.t (tI (cI p70 5 1)),.t (.bool (cB p70 5 2))],.box [AV.t
 (Tree.sl 2 (cL p70 6 0)),.t (tI (cI p70 6 1)),.t (.bool (cB p70 6 2))]]))
noncomputable def KO (n:Nat) (again79:(List AV×Heap)→Option (List Tree)) (p86:List AV×Heap):Option (List Tree):=
 again79 ([],[.box [.func (Fn.func 188) [] []],.row false (AF p86 1) 2 (oEs p86 1),.box [.sref 1 (AJ p86 2 0) (AK p86 2 0) (AI p86 2 0)],.box [AV.t
 (Tree.bool (cB p86 3 0))],.box [],.box [.t (.sl 2 (cL p86 5 0)),.t (tI (cI p86 5 1)),.t (.bool (!(cB p86 5 2)))],.box [.t (.sl 2 (cL p86 6 0)),AV.t
 (tI (cI p86 6 1)),.t (.bool (cB p86 6 2))]])
noncomputable def KN (n:Nat) (again79:(List AV×Heap)→Option (List Tree)) (p84:List AV×Heap):Option (List Tree):=
 cnd (vB p84 0=true) (again79 ([],[.box [.func (Fn.func 188) [] []],.row false (AF p84 1) 2 (oEs p84 1),.box [.sref 1 (AJ p84 2 0) (AK p84 2 0) (AI p84 2 0)],
 .box [.t (.bool (cB p84 3 0))],.box [],.box [.t (.sl 2 (cL p84 5 0)),.t (tI (cI p84 5 1)),.t (.bool (cB p84 5 2))],.box [.t (.sl 2 (cL p84 6
 0)),.t (tI (cI p84 6 1)),.t (.bool (cB p84 6 2))]])) (join (fun (p86:List AV×Heap)=>KO n again79 p86) fun (again87:_→Option (List Tree))=>cnd (cB p84 5 2=true) (again87
 ([],[.box [.func (Fn.func 188) [] []],.row false (AF p84 1) 2 (oEs p84 1),.box [.sref 1 (AJ p84 2 0) (AK p84 2 0) (AI p84 2 0)],.box [.t (.bool (cB
 p84 3 0))],.box [],.box [.t (.sl 2 (cL p84 5 0)),.t (tI (w64 ((cI p84 5 1)+1))),.t (.bool (cB p84 5 2))],.box [.t (.sl 2 (cL p84 6 0)),AV.t
 (tI (cI p84 6 1)),.t (.bool (cB p84 6 2))]])) (again87 ([],[.box [.func (Fn.func 188) [] []],.row false (AF p84 1) 2 (oEs p84 1),.box [.sref 1 (AJ p84 2 0)
 (AK p84 2 0) (AI p84 2 0)],.box [.t (.bool (cB p84 3 0))],.box [],.box [.t (.sl 2 (cL p84 5 0)),.t (tI (cI p84 5 1)),.t (.bool (cB p84 5 2))],.box
 [.t (.sl 2 (cL p84 6 0)),.t (tI (cI p84 6 1)),.t (.bool (cB p84 6 2))]])))
noncomputable def KM (n:Nat) (again79:(List AV×Heap)→Option (List Tree)) (p66:List AV×Heap) (p80:List AV×Heap):Option (List Tree):=
 join (fun (p84:List AV×Heap)=>KN n again79 p84) fun (again85:_→Option (List Tree))=>cnd ((!(vB p80 1))=true) (again85 ([.t (.bool true)],[.box [.func (Fn.func 188) []
 []],.row false (AF p80 1) 2 (oEs p80 1),.box [.sref 1 (AJ p80 2 0) (AK p80 2 0) (AI p80 2 0)],.box [.t (.bool (cB p80 3 0))],.box [],.box [AV.t
 (Tree.sl 2 (cL p80 5 0)),.t (tI (cI p80 5 1)),.t (.bool (cB p80 5 2))],.box [.t (.sl 2 (cL p80 6 0)),.t (tI (cI p80 6 1)),.t (.bool (cB p80 6 2))]]))
 (again85 ([.t (.bool ((vI p80 0) != (vI p66 0)))],[.box [.func (Fn.func 188) [] []],.row false (AF p80 1) 2 (oEs p80 1),.box [.sref 1 (AJ p80 2 0) (AK p80 2
 0) (AI p80 2 0)],.box [.t (.bool (cB p80 3 0))],.box [],.box [.t (.sl 2 (cL p80 5 0)),.t (tI (cI p80 5 1)),.t (.bool (cB p80 5 2))],.box [AV.t
 (Tree.sl 2 (cL p80 6 0)),.t (tI (cI p80 6 1)),.t (.bool (cB p80 6 2))]]))
noncomputable def I9 (n:Nat) (again92:(List AV×Heap)→Option (List Tree)) (p95:List AV×Heap):Option (List Tree):=
 again92 ([],[.box [.func (Fn.func 188) [] []],.row false (AF p95 1) 2 (oEs p95 1),.box [.sref 1 (AJ p95 2 0) (AK p95 2 0) (AI p95 2 0)],.box [AV.t
 (Tree.bool (cB p95 3 0))],.box [],.box [.t (.sl 2 (cL p95 5 0)),.t (tI (cI p95 5 1)),.t (.bool (cB p95 5 2))],.box [.t (.sl 2 (cL p95 6 0)),.t (tI
 (cI p95 6 1)),.t (.bool (cB p95 6 2))],.box [.t (.bool (cB p95 7 0)),.t (.bool (cB p95 7 1))]])
noncomputable def I8 (n:Nat) (again92:(List AV×Heap)→Option (List Tree)) (p66:List AV×Heap) (p93:List AV×Heap):Option (List Tree):=
 join (fun (p95:List AV×Heap)=>I9 n again92 p95) fun (again96:_→Option (List Tree))=>cnd (vB p93 0=true) (cnd (AF p93 1=AJ p93 2 0) (cnd (AF p93 1=AJ p93 2 0∧2 =
 2∧(0:Int)≤w64 (((AI p93 2 0:Nat):Int)-(1:Int))∧w64 (((AI p93 2 0:Nat):Int)-(1:Int))<((AI p93 2 0:Nat):Int)) (cnd (AF p93 1=AJ p93 2 0) (cnd (AF p93 1=AJ p93 2 0∧
 2≤2) (Option.bind (oEs p93 1)[(AK p93 2 0)+(toNat (w64 (((AI p93 2 0:Nat):Int)-(1:Int))))]? fun y97=>again96 ([],[.box [.func (Fn.func 188) [] []],.row false
 (AJ p93 2 0) 2 (List.set (oEs p93 1) ((AK p93 2 0)+(toNat (w64 (((AI p93 2 0:Nat):Int)-(1:Int))))) (take 1 y97++([tI (vI p66 0)]++drop 2 y97))),.box
 [.sref 1 (AJ p93 2 0) (AK p93 2 0) (AI p93 2 0)],.box [.t (.bool (cB p93 3 0))],.box [],.box [.t (.sl 2 (cL p93 5 0)),.t (tI (cI p93 5 1)),AV.t
 (Tree.bool (cB p93 5 2))],.box [.t (.sl 2 (cL p93 6 0)),.t (tI (cI p93 6 1)),.t (.bool (cB p93 6 2))],.box [.t (.bool (cB p93 7 0)),.t (.bool (cB p93 7
 1))]])) none) none) none) none) (again96 ([],[.box [.func (Fn.func 188) [] []],.row false (AF p93 1) 2 (oEs p93 1),.box [.sref 1 (AJ p93 2 0) (AK p93 2 0) (AI
 p93 2 0)],.box [.t (.bool (cB p93 3 0))],.box [],.box [.t (.sl 2 (cL p93 5 0)),.t (tI (cI p93 5 1)),.t (.bool (cB p93 5 2))],.box [.t (.sl 2
 (cL p93 6 0)),.t (tI (cI p93 6 1)),.t (.bool (cB p93 6 2))],.box [.t (.bool (cB p93 7 0)),.t (.bool (cB p93 7 1))]]))
noncomputable def I7 (n:Nat) (again53:(List AV×Heap)→Option (List Tree)) (y88:List Tree) (p91:List AV×Heap):Option (List Tree):=
 again53 ([],[.box [.func (Fn.func 188) [] []],.row false (AF p91 1) 2 (oEs p91 1),.box [.sref 1 (AJ p91 2 0) (AK p91 2 0) (AI p91 2 0)],.box [AV.t
 (Tree.bool (gB y88 0))],.box [],.box [.t (.sl 2 (cL p91 5 0)),.t (tI (cI p91 5 1)),.t (.bool (cB p91 5 2))],.box [.t (.sl 2 (cL p91 6 0)),.t (tI (cI
 p91 6 1)),.t (.bool (cB p91 6 2))]])
noncomputable def I6 (n:Nat) (again53:(List AV×Heap)→Option (List Tree)) (y88:List Tree) (p66:List AV×Heap) (p89:List AV×Heap):Option (List Tree):=
 join (fun (p91:List AV×Heap)=>I7 n again53 y88 p91) fun (again92:_→Option (List Tree))=>cnd (vB p89 0=true) (cnd (AF p89 1=AJ p89 2 0∧(2=2∨2=0)
 ∧(AK p89 2 0)+(AI p89 2 0)≤length (oEs p89 1)∧(AI p89 2 0)+1≤1073741824) (again92 ([],[.box [.func (Fn.func 188) [] []],.row false ((AJ p89 2 0) +
 1) 2 ((take (AI p89 2 0) (drop (AK p89 2 0) (oEs p89 1)))++[[tI (vI p66 0),tI 0]]),.box [.sref 1 ((AJ p89 2 0)+1) 0 ((AI p89 2 0) +
 1)],.box [.t (.bool (cB p89 3 0))],.box [],.box [.t (.sl 2 (cL p89 5 0)),.t (tI (cI p89 5 1)),.t (.bool (cB p89 5 2))],.box [.t (.sl 2
 (cL p89 6 0)),.t (tI (cI p89 6 1)),.t (.bool (cB p89 6 2))],.box [.t (.bool (cB p89 7 0)),.t (.bool (cB p89 7 1))]])) none) (join (fun (p93:List AV×Heap)=>I8 n
 again92 p66 p93) fun (again94:_→Option (List Tree))=>cnd ((!(gB y88 0))=true) (again94 ([.t (.bool (cB p89 3 0))],[.box [.func (Fn.func 188) [] []],.row false (AF p89 1)
 2 (oEs p89 1),.box [.sref 1 (AJ p89 2 0) (AK p89 2 0) (AI p89 2 0)],.box [.t (.bool (cB p89 3 0))],.box [],.box [.t (.sl 2 (cL p89 5 0)),AV.t
 (tI (cI p89 5 1)),.t (.bool (cB p89 5 2))],.box [.t (.sl 2 (cL p89 6 0)),.t (tI (cI p89 6 1)),.t (.bool (cB p89 6 2))],.box [.t (.bool (cB p89 7 0)),AV.t
 (Tree.bool (cB p89 7 1))]])) (again94 ([.t (.bool false)],[.box [.func (Fn.func 188) [] []],.row false (AF p89 1) 2 (oEs p89 1),.box [.sref 1 (AJ p89 2 0)
 (AK p89 2 0) (AI p89 2 0)],.box [.t (.bool (cB p89 3 0))],.box [],.box [.t (.sl 2 (cL p89 5 0)),.t (tI (cI p89 5 1)),.t (.bool (cB p89 5 2))],.box
 [.t (.sl 2 (cL p89 6 0)),.t (tI (cI p89 6 1)),.t (.bool (cB p89 6 2))],.box [.t (.bool (cB p89 7 0)),.t (.bool (cB p89 7 1))]])))
noncomputable def Fu (n:Nat) (again53:(List AV×Heap)→Option (List Tree)) (p66:List AV×Heap) (p78:List AV×Heap):Option (List Tree):=
 Option.bind (AB C n 188 [.bool (cB p78 6 2),.bool (cB p78 5 2)]) fun y88=>cnd (length y88=1) (cnd (okB y88 0) (join (fun (p89:List AV×Heap)=>I6 n again53
 y88 p66 p89) fun (again90:_→Option (List Tree))=>cnd (gB y88 0=true) (again90 ([.t (.bool (!(cB p78 3 0)))],[.box [.func (Fn.func 188) [] []],.row false (AF p78 1) 2
 (oEs p78 1),.box [.sref 1 (AJ p78 2 0) (AK p78 2 0) (AI p78 2 0)],.box [.t (.bool (cB p78 3 0))],.box [],.box [.t (.sl 2 (cL p78 5 0)),.t (tI (cI
 p78 5 1)),.t (.bool (cB p78 5 2))],.box [.t (.sl 2 (cL p78 6 0)),.t (tI (cI p78 6 1)),.t (.bool (cB p78 6 2))],.box [.t (.bool (cB p78 6 2)),AV.t
 (Tree.bool (cB p78 5 2))]])) (again90 ([.t (.bool false)],[.box [.func (Fn.func 188) [] []],.row false (AF p78 1) 2 (oEs p78 1),.box [.sref 1 (AJ p78 2 0)
 (AK p78 2 0) (AI p78 2 0)],.box [.t (.bool (cB p78 3 0))],.box [],.box [.t (.sl 2 (cL p78 5 0)),.t (tI (cI p78 5 1)),.t (.bool (cB p78 5 2))],.box
 [.t (.sl 2 (cL p78 6 0)),.t (tI (cI p78 6 1)),.t (.bool (cB p78 6 2))],.box [.t (.bool (cB p78 6 2)),.t (.bool (cB p78 5 2))]]))) none) none
noncomputable def HI (n:Nat) (again53:(List AV×Heap)→Option (List Tree)) (p66:List AV×Heap) (p68:List AV×Heap):Option (List Tree):=
 join (fun (p78:List AV×Heap)=>Fu n again53 p66 p78) fun (again79:_→Option (List Tree))=>join (fun (p80:List AV×Heap)=>KM n again79 p66 p80) fun (again81:_→Option (List
 Tree))=>cnd (((cI p68 5 1)==((length (cL p68 5 0):Nat):Int))=true) (again81 ([.t (tI 0),.t (.bool false)],[.box [.func (Fn.func 188) [] []],.row false (AF p68
 1) 2 (oEs p68 1),.box [.sref 1 (AJ p68 2 0) (AK p68 2 0) (AI p68 2 0)],.box [.t (.bool (cB p68 3 0))],.box [],.box [.t (.sl 2 (cL p68 5 0)),
 .t (tI (cI p68 5 1)),.t (.bool (cB p68 5 2))],.box [.t (.sl 2 (cL p68 6 0)),.t (tI (cI p68 6 1)),.t (.bool (cB p68 6 2))]])) (cnd (cB p68 5 2=true) (cnd (2
 = 2∧(0:Int)≤cI p68 5 1) (Option.bind (cL p68 5 0)[toNat (cI p68 5 1)]? fun y82=>cnd (okI y82 1) (again81 ([.t (tI (gI y82 1)),.t (.bool true)],[.box [.func (Fn.func
 188) [] []],.row false (AF p68 1) 2 (oEs p68 1),.box [.sref 1 (AJ p68 2 0) (AK p68 2 0) (AI p68 2 0)],.box [.t (.bool (cB p68 3 0))],.box [],.box
 [.t (.sl 2 (cL p68 5 0)),.t (tI (cI p68 5 1)),.t (.bool (cB p68 5 2))],.box [.t (.sl 2 (cL p68 6 0)),.t (tI (cI p68 6 1)),.t (.bool (cB p68 6 2))]]))
 none) none) (cnd (2=2∧(0:Int)≤cI p68 5 1) (Option.bind (cL p68 5 0)[toNat (cI p68 5 1)]? fun y83=>cnd (okI y83 0) (again81 ([.t (tI (gI y83 0)),.t (.bool true)],
 [.box [.func (Fn.func 188) [] []],.row false (AF p68 1) 2 (oEs p68 1),.box [.sref 1 (AJ p68 2 0) (AK p68 2 0) (AI p68 2 0)],.box [.t (.bool (cB p68 3
 0))],.box [],.box [.t (.sl 2 (cL p68 5 0)),.t (tI (cI p68 5 1)),.t (.bool (cB p68 5 2))],.box [.t (.sl 2 (cL p68 6 0)),.t (tI (cI p68 6 1)),AV.t
 (Tree.bool (cB p68 6 2))]])) none) none))
noncomputable def HG (n:Nat) (again53:(List AV×Heap)→Option (List Tree)) (p66:List AV×Heap):Option (List Tree):=
 join (fun (p68:List AV×Heap)=>HI n again53 p66 p68) fun (again69:_→Option (List Tree))=>join (fun (p70:List AV×Heap)=>KP n again69 p66 p70) fun (again71:_→Option (List
 Tree))=>cnd (((cI p66 6 1)==((length (cL p66 6 0):Nat):Int))=true) (again71 ([.t (tI 0),.t (.bool false)],[.box [.func (Fn.func 188) [] []],.row false (AF p66
 1) 2 (oEs p66 1),.box [.sref 1 (AJ p66 2 0) (AK p66 2 0) (AI p66 2 0)],.box [.t (.bool (cB p66 3 0))],.box [],.box [.t (.sl 2 (cL p66 5 0)),
 .t (tI (cI p66 5 1)),.t (.bool (cB p66 5 2))],.box [.t (.sl 2 (cL p66 6 0)),.t (tI (cI p66 6 1)),.t (.bool (cB p66 6 2))]])) (cnd (cB p66 6 2=true) (cnd (2
 = 2∧(0:Int)≤cI p66 6 1) (Option.bind (cL p66 6 0)[toNat (cI p66 6 1)]? fun y72=>cnd (okI y72 1) (again71 ([.t (tI (gI y72 1)),.t (.bool true)],[.box [.func (Fn.func
 188) [] []],.row false (AF p66 1) 2 (oEs p66 1),.box [.sref 1 (AJ p66 2 0) (AK p66 2 0) (AI p66 2 0)],.box [.t (.bool (cB p66 3 0))],.box [],.box
 [.t (.sl 2 (cL p66 5 0)),.t (tI (cI p66 5 1)),.t (.bool (cB p66 5 2))],.box [.t (.sl 2 (cL p66 6 0)),.t (tI (cI p66 6 1)),.t (.bool (cB p66 6 2))]]))
 none) none) (cnd (2=2∧(0:Int)≤cI p66 6 1) (Option.bind (cL p66 6 0)[toNat (cI p66 6 1)]? fun y73=>cnd (okI y73 0) (again71 ([.t (tI (gI y73 0)),.t (.bool true)],
 [.box [.func (Fn.func 188) [] []],.row false (AF p66 1) 2 (oEs p66 1),.box [.sref 1 (AJ p66 2 0) (AK p66 2 0) (AI p66 2 0)],.box [.t (.bool (cB p66 3
 0))],.box [],.box [.t (.sl 2 (cL p66 5 0)),.t (tI (cI p66 5 1)),.t (.bool (cB p66 5 2))],.box [.t (.sl 2 (cL p66 6 0)),.t (tI (cI p66 6 1)),AV.t
 (Tree.bool (cB p66 6 2))]])) none) none))
noncomputable def KL (n:Nat) (again53:(List AV×Heap)→Option (List Tree)) (p58:List AV×Heap) (p54:List AV×Heap) (p64:List AV×Heap):Option (List Tree):=
 join (fun (p66:List AV×Heap)=>HG n again53 p66) fun (again67:_→Option (List Tree))=>cnd (vB p64 0=true) (again67 ([.t (tI (vI p58 0))],[.box [.func (Fn.func 188) [] []],
 .row false (AF p64 1) 2 (oEs p64 1),.box [.sref 1 (AJ p64 2 0) (AK p64 2 0) (AI p64 2 0)],.box [.t (.bool (cB p64 3 0))],.box [],.box [.t (.sl
 2 (cL p64 5 0)),.t (tI (cI p64 5 1)),.t (.bool (cB p64 5 2))],.box [.t (.sl 2 (cL p64 6 0)),.t (tI (cI p64 6 1)),.t (.bool (cB p64 6 2))]])) (again67 ([AV.t
 (tI (vI p54 0))],[.box [.func (Fn.func 188) [] []],.row false (AF p64 1) 2 (oEs p64 1),.box [.sref 1 (AJ p64 2 0) (AK p64 2 0) (AI p64 2 0)],.box [AV.t
 (Tree.bool (cB p64 3 0))],.box [],.box [.t (.sl 2 (cL p64 5 0)),.t (tI (cI p64 5 1)),.t (.bool (cB p64 5 2))],.box [.t (.sl 2 (cL p64 6 0)),.t (tI
 (cI p64 6 1)),.t (.bool (cB p64 6 2))]]))
noncomputable def I5 (n:Nat) (again53:(List AV×Heap)→Option (List Tree)) (p58:List AV×Heap) (p54:List AV×Heap) (p62:List AV×Heap):Option (List Tree):=
 cnd (vB p62 0=true) (cnd (AF p62 1=AJ p62 2 0) (cnd (decide (((AI p62 2 0:Nat):Int)>1000)=true) (some [.sl 2 [],tI 4]) (cnd ((false=true∨false=false)∧AF
 p62 1=AJ p62 2 0∧(2=2∨2=0)) (some [.sl 2 (take (AI p62 2 0) (drop (AK p62 2 0) (oEs p62 1))),tI 0]) none)) none) (join (fun (p64 :
 List AV×Heap)=>KL n again53 p58 p54 p64) fun (again65:_→Option (List Tree))=>cnd ((!(vB p54 1))=true) (again65 ([.t (.bool true)],[.box [.func (Fn.func 188) [] []],
 .row false (AF p62 1) 2 (oEs p62 1),.box [.sref 1 (AJ p62 2 0) (AK p62 2 0) (AI p62 2 0)],.box [.t (.bool (cB p62 3 0))],.box [],.box [.t (.sl
 2 (cL p62 5 0)),.t (tI (cI p62 5 1)),.t (.bool (cB p62 5 2))],.box [.t (.sl 2 (cL p62 6 0)),.t (tI (cI p62 6 1)),.t (.bool (cB p62 6 2))]])) (cnd (vB p58 1 =
 true) (again65 ([.t (.bool (decide (vI p58 0<vI p54 0)))],[.box [.func (Fn.func 188) [] []],.row false (AF p62 1) 2 (oEs p62 1),.box [.sref 1 (AJ p62 2 0)
 (AK p62 2 0) (AI p62 2 0)],.box [.t (.bool (cB p62 3 0))],.box [],.box [.t (.sl 2 (cL p62 5 0)),.t (tI (cI p62 5 1)),.t (.bool (cB p62 5 2))],.box
 [.t (.sl 2 (cL p62 6 0)),.t (tI (cI p62 6 1)),.t (.bool (cB p62 6 2))]])) (again65 ([.t (.bool false)],[.box [.func (Fn.func 188) [] []],.row false (AF p62 1)
 2 (oEs p62 1),.box [.sref 1 (AJ p62 2 0) (AK p62 2 0) (AI p62 2 0)],.box [.t (.bool (cB p62 3 0))],.box [],.box [.t (.sl 2 (cL p62 5 0)),AV.t
 (tI (cI p62 5 1)),.t (.bool (cB p62 5 2))],.box [.t (.sl 2 (cL p62 6 0)),.t (tI (cI p62 6 1)),.t (.bool (cB p62 6 2))]]))))
noncomputable def Ft (n:Nat) (again53:(List AV×Heap)→Option (List Tree)) (p54:List AV×Heap) (p58:List AV×Heap):Option (List Tree):=
 join (fun (p62:List AV×Heap)=>I5 n again53 p58 p54 p62) fun (again63:_→Option (List Tree))=>cnd ((!(vB p54 1))=true) (again63 ([.t (.bool (!(vB p58 1)))],[.box [.func
 (Fn.func 188) [] []],.row false (AF p58 1) 2 (oEs p58 1),.box [.sref 1 (AJ p58 2 0) (AK p58 2 0) (AI p58 2 0)],.box [.t (.bool (cB p58 3 0))],.box [],
 .box [.t (.sl 2 (cL p58 5 0)),.t (tI (cI p58 5 1)),.t (.bool (cB p58 5 2))],.box [.t (.sl 2 (cL p58 6 0)),.t (tI (cI p58 6 1)),.t (.bool (cB p58 6
 2))]])) (again63 ([.t (.bool false)],[.box [.func (Fn.func 188) [] []],.row false (AF p58 1) 2 (oEs p58 1),.box [.sref 1 (AJ p58 2 0) (AK p58 2 0) (AI p58
 2 0)],.box [.t (.bool (cB p58 3 0))],.box [],.box [.t (.sl 2 (cL p58 5 0)),.t (tI (cI p58 5 1)),.t (.bool (cB p58 5 2))],.box [.t (.sl 2 (cL
 p58 6 0)),.t (tI (cI p58 6 1)),.t (.bool (cB p58 6 2))]]))
noncomputable def I4 (n:Nat) (again53:(List AV×Heap)→Option (List Tree)) (p54:List AV×Heap):Option (List Tree):=
 join (fun (p58:List AV×Heap)=>Ft n again53 p54 p58) fun (again59:_→Option (List Tree))=>cnd (((cI p54 5 1)==((length (cL p54 5 0):Nat):Int))=true) (again59 ([.t (tI
 (0:Int)),.t (.bool false)],[.box [.func (Fn.func 188) [] []],.row false (AF p54 1) 2 (oEs p54 1),.box [.sref 1 (AJ p54 2 0) (AK p54 2 0) (AI p54 2 0)],
 .box [.t (.bool (cB p54 3 0))],.box [],.box [.t (.sl 2 (cL p54 5 0)),.t (tI (cI p54 5 1)),.t (.bool (cB p54 5 2))],.box [.t (.sl 2 (cL p54 6
 0)),.t (tI (cI p54 6 1)),.t (.bool (cB p54 6 2))]])) (cnd (cB p54 5 2=true) (cnd (2=2∧(0:Int)≤cI p54 5 1) (Option.bind (cL p54 5 0)[toNat (cI p54 5 1)]? fun y60=>
 cnd (okI y60 1) (again59 ([.t (tI (gI y60 1)),.t (.bool true)],[.box [.func (Fn.func 188) [] []],.row false (AF p54 1) 2 (oEs p54 1),.box [.sref 1 (AJ p54 2
 0) (AK p54 2 0) (AI p54 2 0)],.box [.t (.bool (cB p54 3 0))],.box [],.box [.t (.sl 2 (cL p54 5 0)),.t (tI (cI p54 5 1)),.t (.bool (cB p54 5 2))],
 .box [.t (.sl 2 (cL p54 6 0)),.t (tI (cI p54 6 1)),.t (.bool (cB p54 6 2))]])) none) none) (cnd (2=2∧(0:Int)≤cI p54 5 1) (Option.bind (cL p54 5 0)[toNat
 (cI p54 5 1)]? fun y61=>cnd (okI y61 0) (again59 ([.t (tI (gI y61 0)),.t (.bool true)],[.box [.func (Fn.func 188) [] []],.row false (AF p54 1) 2 (oEs p54 1),.box
 [.sref 1 (AJ p54 2 0) (AK p54 2 0) (AI p54 2 0)],.box [.t (.bool (cB p54 3 0))],.box [],.box [.t (.sl 2 (cL p54 5 0)),.t (tI (cI p54 5 1)),AV.t
 (Tree.bool (cB p54 5 2))],.box [.t (.sl 2 (cL p54 6 0)),.t (tI (cI p54 6 1)),.t (.bool (cB p54 6 2))]])) none) none))
noncomputable def HD (n:Nat)  (p52:List AV×Heap) (again53:(List AV×Heap)→Option (List Tree)):Option (List Tree):=
 join (fun (p54:List AV×Heap)=>I4 n again53 p54) fun (again55:_→Option (List Tree))=>cnd (((cI p52 6 1)==((length (cL p52 6 0):Nat):Int))=true) (again55 ([.t (tI 0),
 .t (.bool false)],[.box [.func (Fn.func 188) [] []],.row false (AF p52 1) 2 (oEs p52 1),.box [.sref 1 (AJ p52 2 0) (AK p52 2 0) (AI p52 2 0)],.box
 [.t (.bool (cB p52 3 0))],.box [],.box [.t (.sl 2 (cL p52 5 0)),.t (tI (cI p52 5 1)),.t (.bool (cB p52 5 2))],.box [.t (.sl 2 (cL p52 6 0)),AV.t
 (tI (cI p52 6 1)),.t (.bool (cB p52 6 2))]])) (cnd (cB p52 6 2=true) (cnd (2=2∧(0:Int)≤cI p52 6 1) (Option.bind (cL p52 6 0)[toNat (cI p52 6 1)]? fun y56=>cnd (okI y56
 1) (again55 ([.t (tI (gI y56 1)),.t (.bool true)],[.box [.func (Fn.func 188) [] []],.row false (AF p52 1) 2 (oEs p52 1),.box [.sref 1 (AJ p52 2 0) (AK p52
 2 0) (AI p52 2 0)],.box [.t (.bool (cB p52 3 0))],.box [],.box [.t (.sl 2 (cL p52 5 0)),.t (tI (cI p52 5 1)),.t (.bool (cB p52 5 2))],.box [AV.t
 (Tree.sl 2 (cL p52 6 0)),.t (tI (cI p52 6 1)),.t (.bool (cB p52 6 2))]])) none) none) (cnd (2=2∧(0:Int)≤cI p52 6 1) (Option.bind (cL p52 6 0)[toNat (cI p52 6 1)]?
 fun y57=>cnd (okI y57 0) (again55 ([.t (tI (gI y57 0)),.t (.bool true)],[.box [.func (Fn.func 188) [] []],.row false (AF p52 1) 2 (oEs p52 1),.box [.sref 1
 (AJ p52 2 0) (AK p52 2 0) (AI p52 2 0)],.box [.t (.bool (cB p52 3 0))],.box [],.box [.t (.sl 2 (cL p52 5 0)),.t (tI (cI p52 5 1)),.t (.bool (cB p52 5
 2))],.box [.t (.sl 2 (cL p52 6 0)),.t (tI (cI p52 6 1)),.t (.bool (cB p52 6 2))]])) none) none))
noncomputable def KK (n:Nat) (a0:List (List Tree)) (a1:List (List Tree)) (p2:List AV×Heap):Option (List Tree):=
 cnd (vB p2 0=true) (some [.sl 2 [],tI 1]) (both (AH (fun (p6:List AV×Heap) (again7:_→Option (List Tree))=>HE n p6 again7) n ([],[.box [.func (Fn.func
 188) [] []],.row false 0 2 [],.box [.sref 1 0 0 0],.box [.t (.bool false)],.box [],.box [.t (.sl 2 a0),.t (tI
 (0:Int)),.t (.bool false)],.box [.t (.sl 2 a1),.t (tI 0),.t (.bool false)]])) (AH (fun (p52:List AV×Heap) (again53:_→Option (List Tree))=>
 HD n p52 again53) n ([],[.box [.func (Fn.func 188) [] []],.row false 0 2 [],.box [.sref 1 0 0 0],.box [.t (.bool false)],
 .box [],.box [.t (.sl 2 a1),.t (tI 0),.t (.bool false)],.box [.t (.sl 2 a0),.t (tI 0),.t (.bool false)]])))
theorem e145 (n:Nat) (a0:List (List Tree)) (a1:List (List Tree)):AB C (n+1) 145 [.sl 2 a0,.sl 2 a1]=
 join (fun (p2:List AV×Heap)=>KK n a0 a1 p2) fun (again3:_→Option (List Tree))=>Option.bind (AB C n 80 [.sl 2 a0]) fun y4=>cnd (length y4=1) (cnd (okI
 y4 0) (cnd (((gI y4 0) != 0)=true) (again3 ([.t (.bool true)],[.box [.func (Fn.func 188) [] []]])) (Option.bind (AB C n 80 [.sl 2 a1]) fun y5=>cnd
 (length y5=1) (cnd (okI y5 0) (again3 ([.t (.bool ((gI y5 0) != 0))],[.box [.func (Fn.func 188) [] []]])) none) none)) none) none:=by kernel_rfl
noncomputable def Q2 (n:Nat) (a1:Int) (p2:List AV×Heap) (again3:(List AV×Heap)→Option (List Tree)):Option (List Tree):=
 cnd (decide (((ByteArray.size (vS p2 0):Nat):Int)>0)=true) (cnd ((0:Int)≤0∧(0:Int)<((ByteArray.size (vS p2 0):Nat):Int)) (cnd (((Ax (vS p2 0) 0)==a1)=true) (cnd
 ((0:Int)≤1∧(1:Int)≤((ByteArray.size (vS p2 0):Nat):Int)) (again3 ([.t (.str (ByteArray.extract (vS p2 0) 1 (ByteArray.size (vS p2 0))))],[])) none) (some [.str (vS p2
 0)])) none) (some [.str (vS p2 0)])
theorem e146 (n:Nat) (a0:ByteArray) (a1:Int):AB C (n+1) 146 [.str a0,.int IntKind.u8 a1]=
 AH (fun (p2:List AV×Heap) (again3:_→Option (List Tree))=>Q2 n a1 p2 again3) n ([.t (.str a0)],[]):=by kernel_rfl
noncomputable def Q4 (n:Nat) (p2:List AV×Heap) (again3:(List AV×Heap)→Option (List Tree)) (p4:List AV×Heap):Option (List Tree):=
 cnd (vB p4 0=true) (cnd ((0:Int)≤w64 (((ByteArray.size (vS p2 0):Nat):Int)-(1:Int))∧w64 (((ByteArray.size (vS p2 0):Nat):Int)-(1:Int))≤((ByteArray.size (vS p2 0):Nat):Int)) (again3 ([AV.t
 (Tree.str (ByteArray.extract (vS p2 0) 0 (toNat (w64 (((ByteArray.size (vS p2 0):Nat):Int)-(1:Int))))))],[])) none) (some [.str (vS p2 0)])
noncomputable def Q1 (n:Nat) (a1:Int) (p2:List AV×Heap) (again3:(List AV×Heap)→Option (List Tree)):Option (List Tree):=
 join (fun (p4:List AV×Heap)=>Q4 n p2 again3 p4) fun (again5:_→Option (List Tree))=>cnd (decide (((ByteArray.size (vS p2 0):Nat):Int)>0)=true) (cnd ((0:Int)≤w64
 (((ByteArray.size (vS p2 0):Nat):Int)-(1:Int))∧w64 (((ByteArray.size (vS p2 0):Nat):Int)-(1:Int))<((ByteArray.size (vS p2 0):Nat):Int)) (again5 ([.t (.bool ((Ax (vS p2 0) (toNat
 (w64 (((ByteArray.size (vS p2 0):Nat):Int)-(1:Int)))))==a1))],[])) none) (again5 ([.t (.bool false)],[]))
theorem e147 (n:Nat) (a0:ByteArray) (a1:Int):AB C (n+1) 147 [.str a0,.int IntKind.u8 a1]=
 AH (fun (p2:List AV×Heap) (again3:_→Option (List Tree))=>Q1 n a1 p2 again3) n ([.t (.str a0)],[]):=by kernel_rfl
theorem e153 (n:Nat) (a0:ByteArray):AB C (n+1) 153 [.str a0]=
 Option.bind (AB C n 41 [.str a0]) fun y1=>cnd (length y1=3) (cnd (okS y1 0) (cnd (okI y1 1) (cnd (okI y1 2) (cnd (((gI y1 2) != 0)=true) none (cnd ((0:Int)≤
 (0:Int)∧(0:Int)≤((ByteArray.size (gS y1 0):Nat):Int)) (Option.bind (AB C n 83 [.str (ByteArray.extract (gS y1 0) 0 (ByteArray.size (gS y1 0)))]) fun y6=>cnd (length y6 =
 3) (cnd (okI y6 0) (cnd (okI y6 1) (cnd (okI y6 2) (cnd (((gI y6 2) != 0)=true) none (cnd ((0:Int)≤w64 ((0:Int)+(gI y6 1))∧w64 ((0:Int)+(gI y6 1))≤((ByteArray.size (gS y1
 0):Nat):Int)) (Option.bind (AB C n 83 [.str (ByteArray.extract (gS y1 0) (toNat (w64 ((0:Int)+(gI y6 1)))) (ByteArray.size (gS y1 0)))]) fun y11=>cnd (length y11=3)
 (cnd (okI y11 0) (cnd (okI y11 1) (cnd (okI y11 2) (cnd (((gI y11 2) != 0)=true) none (cnd ((0:Int)≤w64 ((w64 ((0:Int)+(gI y6 1)))+(gI y11 1))∧w64 ((w64 ((0:Int)+(gI y6 1)))+(gI
 y11 1))≤((ByteArray.size (gS y1 0):Nat):Int)) (Option.bind (AB C n 84 [.str (ByteArray.extract (gS y1 0) (toNat (w64 ((w64 ((0:Int)+(gI y6 1)))+(gI y11 1)))) (ByteArray.size (gS
 y1 0)))]) fun y16=>cnd (length y16=3) (cnd (okS y16 0) (cnd (okI y16 1) (cnd (okI y16 2) (cnd (((gI y16 2) != 0)=true) none (cnd (((w64 ((w64 ((w64 ((0:Int)+(gI y6 1)))+(gI
 y11 1)))+(gI y16 1))) != ((ByteArray.size (gS y1 0):Nat):Int))=true) none (Option.bind (AB C n 127 [tI (gI y6 0),tI (gI y11 0),.str (gS y16 0)]) fun y19=>cnd (length y19 =
 1) (cnd (okI y19 0) (cnd (((gI y19 0) != 0)=true) none (some [tI (gI y6 0),tI (gI y11 0),.str (gS y16 0),tI (gI y1 1),tI 0])) none) none))) none) none) none) none) none))
 none) none) none) none) none)) none) none) none) none) none)) none) none) none) none:=by kernel_rfl
noncomputable def N2 (n:Nat) (a1:ByteArray) (p2:List AV×Heap) (again3:(List AV×Heap)→Option (List Tree)):Option (List Tree):=
 cnd (decide (vI p2 0<((ByteArray.size a1:Nat):Int))=true) (cnd ((0:Int)≤vI p2 0∧vI p2 0<((ByteArray.size a1:Nat):Int)) (cnd (0=0∧(0:Int)≤Ck IntKind.u8 (IntKind.wrap
 IntKind.u8 (cI p2 0 0)) (Ax a1 (toNat (vI p2 0)))∧Ck IntKind.u8 (IntKind.wrap IntKind.u8 (cI p2 0 0)) (Ax a1 (toNat (vI p2 0)))<256) (cnd (0+((toNat (Ck
 IntKind.u8 (IntKind.wrap IntKind.u8 (cI p2 0 0)) (Ax a1 (toNat (vI p2 0)))))*1)<256) (cnd (Ce IntKind.u32 (List.getD ID (0+((toNat (Ck IntKind.u8
 (IntKind.wrap IntKind.u8 (cI p2 0 0)) (Ax a1 (toNat (vI p2 0)))))*1)) default)=true) (again3 ([.t (tI (w64 ((vI p2 0)+1)))],[.box [.t (.int IntKind.u32 (Ck
 IntKind.u32 (Df IntKind.u32 (cI p2 0 0) (8:Int)) (intOf (List.getD ID (0+((toNat (Ck IntKind.u8 (IntKind.wrap IntKind.u8 (cI p2 0 0)) (Ax a1 (toNat (vI p2 0)))))*1))
 default))))],.box [],.box []])) none) none) none) none) (some [.int IntKind.u32 (cI p2 0 0)])
theorem e186 (n:Nat) (a0:Int) (a1:ByteArray):AB C (n+1) 186 [.int IntKind.u32 a0,.str a1]=
 AH (fun (p2:List AV×Heap) (again3:_→Option (List Tree))=>N2 n a1 p2 again3) n ([.t (tI 0)],[.box [.t (.int IntKind.u32 a0)],.box [],.box []]):=by kernel_rfl
theorem e101 (n:Nat) (a0:List (List Tree)) (a1:List (List Tree)) (a2:Int) (a3:Int) (a4:Int) (a5:Int) (a6:Int) (a7:Int) (a8:Int) (a9:Int) (a10:Int) (a11:Int) (a12:Bool) (a13:ByteArray) (a14:Int) (a15:Int) (a16:Int) (a17:Int) (a18:Int) (a19:Int) (a20:Int):AB C (n+1) 101 [.sl 11 a0,.sl 11 a1,tI a2,tI a3,tI a4,tI a5,tI a6,tI a7,tI a8,tI a9,tI a10,tI a11,.bool a12,.str a13,tI a14,tI a15,tI a16,tI a17,tI a18,tI a19,tI a20]=
 Option.bind (AB C n 102 [.sl 11 a0,tI a3,tI a4,tI a5,tI a6,tI a7,tI a8,tI a9,tI a10,tI a11,.bool a12,.str a13]) fun y21=>cnd (length y21=1) (cnd
 (okL 11 y21 0) (some [.sl 11 (gL y21 0),.sl 11 a1]) none) none:=by kernel_rfl
theorem e131 (n:Nat) (a0:Int) (a1:Int) (a2:Int) (a3:Int) (a4:Int) (a5:Bool) (a6:ByteArray) (a7:List (List Tree)):AB C (n+1) 131 [tI a0,tI a1,tI a2,tI a3,tI a4,.bool a5,.str a6,.sl 2 a7]=
 Option.bind (AB C n 35 [tI a4,tI 1,tI 65536]) fun y10=>cnd (length y10=1) (cnd (okB y10 0) (cnd (gB y10 0=true) (Option.bind (AB C n 35 [tI a3,tI
 (0:Int),tI (w64 (a4-(1:Int)))]) fun y11=>cnd (length y11=1) (cnd (okB y11 0) (cnd (gB y11 0=true) (some [.bool ((decide (a2≥(1:Int)))==a5)]) (some [.bool false])) none)
 none) (some [.bool false])) none) none:=by kernel_rfl
theorem e132 (n:Nat) (a0:Int) (a1:Int) (a2:Int) (a3:Int) (a4:Int) (a5:Bool) (a6:ByteArray) (a7:List (List Tree)):AB C (n+1) 132 [tI a0,tI a1,tI a2,tI a3,tI a4,.bool a5,.str a6,.sl 2 a7]=
 Option.bind (AB C n 35 [tI ((ByteArray.size a6:Nat):Int),tI 1,tI (if w64 (a4-a3)<16 then w64 (a4-a3) else (16:Int))]) fun y10=>cnd (length y10=1) (cnd (okB
 y10 0) (cnd (gB y10 0=true) (some [.bool (((length a7:Nat):Int)==0)]) (some [.bool false])) none) none:=by kernel_rfl
theorem e133 (n:Nat) (a0:Int) (a1:Int) (a2:Int) (a3:Int) (a4:Int) (a5:Bool) (a6:ByteArray) (a7:List (List Tree)):AB C (n+1) 133 [tI a0,tI a1,tI a2,tI a3,tI a4,.bool a5,.str a6,.sl 2 a7]=
 cnd (decide (a2≥(1:Int))=true) (Option.bind (AB C n 35 [tI a4,tI 1,tI 65536]) fun y10=>cnd (length y10=1) (cnd (okB y10 0) (cnd (gB y10 0=true) (some
 [.bool (a3==0)]) (some [.bool false])) none) none) (some [.bool false]):=by kernel_rfl
theorem e134 (n:Nat) (a0:Int) (a1:Int) (a2:Int) (a3:Int) (a4:Int) (a5:Bool) (a6:ByteArray) (a7:List (List Tree)):AB C (n+1) 134 [tI a0,tI a1,tI a2,tI a3,tI a4,.bool a5,.str a6,.sl 2 a7]=
 cnd ((!a5)=true) (cnd ((a6==(ByteArray.mk #[]))=true) (cnd (decide (((length a7:Nat):Int)≤1000)=true) (Option.bind (AB C n 36 [.sl 2 a7,tI a4]) fun y10=>cnd
 (length y10=1) (cnd (okB y10 0) (some [.bool (gB y10 0)]) none) none) (some [.bool false])) (some [.bool false])) (some [.bool false]):=by kernel_rfl
theorem e135 (n:Nat) (a0:Int) (a1:Int) (a2:Int) (a3:Int) (a4:Int) (a5:Bool) (a6:ByteArray) (a7:List (List Tree)):AB C (n+1) 135 [tI a0,tI a1,tI a2,tI a3,tI a4,.bool a5,.str a6,.sl 2 a7]=
 cnd ((a2==0)=true) (cnd ((a4==0)=true) (some [.bool (a3==0)]) (some [.bool false])) (some [.bool false]):=by kernel_rfl
theorem e136 (n:Nat) (a0:Int) (a1:Int) (a2:Int) (a3:Int) (a4:Int) (a5:Bool) (a6:ByteArray) (a7:List (List Tree)):AB C (n+1) 136 [tI a0,tI a1,tI a2,tI a3,tI a4,.bool a5,.str a6,.sl 2 a7]=
 cnd ((!a5)=true) (cnd ((a6==(ByteArray.mk #[]))=true) (some [.bool (((length a7:Nat):Int)==0)]) (some [.bool false])) (some [.bool false]):=by kernel_rfl
theorem e188 (n:Nat) (a0:Bool) (a1:Bool):AB C (n+1) 188 [.bool a0,.bool a1]=
 cnd (a0=true) (some [.bool true]) (some [.bool a1]):=by kernel_rfl
theorem UJ (n:Nat) (a0:List (List Tree)):AB C (n+1) 1000109 [.sl 11 a0]=
 cnd (length a0≠0) (cnd (length a0≤1073741824) (some [.sl 11 (take (length a0) a0)]) none) (both (some [.sl 11 []]) (cnd (length a0≤
 1073741824) (some [.sl 11 (take (length a0) a0)]) none)):=by kernel_rfl
end Ab
namespace Ab
open Go
structure Span where
 fro:Int
 to:Int
 deriving DecidableEq
def Span.enc (e:Span):List Tree:=[tI e.fro,tI e.to]
theorem s43 (a b:List Span) (ha:a.length≤1000000):AL C 43 [.sl 2 (a.map Span.enc),.sl 2 (b.map Span.enc)] [.bool (decide (a=b))]:=by
 refine AL.of (fun n=>e43 n _ _) ?_;simp only [vv,reduceCtorEq,reduceAdd,reduceEqDiff];by_cases hl:a.length=b.length
 ·simp only [hl,bne_self_eq_false,vv,reduceCtorEq,reduceAdd,reduceEqDiff];refine Ao (fun r=>[Tree.bool r]) a (fun i _=>(([.t (tI i)],[]):List AV×Heap)) (Ng b) (fun _=>true) (fun _ _=>True) () rfl trivial (UI b a 0 (by omega))
   (fun i s x hx hI=>Ev.of fun n again => ?_) (fun _ _ _ _ _ _ _=>trivial) (fun s hI=>Ev.of fun n again => ?_)
  ·have hi:=AY hx;have hb:b[i]? = some b[i]:=getElem?_eq_getElem (by omega);simp only [U4,vv,reduceCtorEq,reduceAdd,reduceEqDiff,hx,hb,Span.enc,BL (show i<4611686018427387904 by omega),(show (i:Int)<b.length by omega),Ng,Option.some.injEq];cases x with|mk x0 x1=>
   cases b[i] with|mk y0 y1=>
   simp only [AD,Span.mk.injEq];grind [Rd.As,Rd.BX]
  ·simp only [U4,vv,reduceCtorEq,reduceAdd,reduceEqDiff,hl,lt_irrefl]
 ·refine Ev.of fun n => ?_;have:¬a=b:=fun e=>hl (by rw [e]);rw [AZ (by simp;omega)];simp [this]
structure Seg where
 kind:Int
 ses:Int
 ser:Int
 off:Int
 tot:Int
 chk:Bool
 data:ByteArray
 claims:List Span
 deriving DecidableEq
structure Rcv where
 ses:Int
 tot:Int
 known:List Span
 data:ByteArray
 deriving DecidableEq
def Rcv.enc (r:Rcv):List Tree:=[tI r.ses,tI r.tot,.sl 2 (r.known.map Span.enc),.str r.data]
def Seg.enc (x:Seg):List Tree:=[tI x.kind,tI x.ses,tI x.ser,tI x.off,tI x.tot,.bool x.chk,.str x.data,.sl 2 (x.claims.map Span.enc)]
def wi (n a b:Int):Bool:=decide (a≤n∧n≤b)
theorem Gq (n a b:Int):(if decide (n≥a)=true then some [Tree.bool (decide (n≤b))] else some [Tree.bool false])=some [Tree.bool (wi n a b)]:=by unfold wi;by_cases h:a≤n<;>simp [h]
theorem s35 (n a b:Int):AL C 35 [tI n,tI a,tI b] [.bool (wi n a b)]:=AL.of (fun m=>e35 m _ _ _) (Ev.of fun m=>by rw [AD];exact Gq n a b)
def Valid (x:Span):Prop:=x.fro<x.to∧ -1152921504606846976≤x.fro∧x.to≤1152921504606846976
instance (x:Span):Decidable (Valid x):=by unfold Valid;exact inferInstance
theorem s130 (x:Span):AL C 130 x.enc [.bool (decide (Valid x))]:=by refine AL.of (fun n=>e130 n _ _) (Ev.of fun n => ?_);unfold Valid;simp only [AD,decide_eq_true_eq,ge_iff_le];grind
def Iu (l:List Span) (i:Nat) (_:Unit) (x:Span):Rd Unit Int:=
 if ¬Valid x then .done 2 else if i≠0∧(l[i-1]?.map fun y=>decide (x.fro≤y.to))=some true then .done 9 else .next ()
def D5 (l:List Span):Int:=if 1000<l.length then 4 else B9 (Iu l) (fun _=>0) 0 l ()
theorem s80 (l:List Span):AL C 80 [.sl 2 (l.map Span.enc)] [tI (D5 l)]:=by
 refine AL.of (fun n=>e80 n _) ?_;unfold D5;by_cases h:1000<l.length
 ·rw [if_pos h];refine Ev.of fun n => ?_;simp only [vv,reduceCtorEq,reduceAdd,reduceEqDiff,(show (1000:Int)<(l.length:Int) by omega)]
 ·rw [if_neg h];simp only [vv,reduceCtorEq,reduceAdd,reduceEqDiff,(show ¬(1000:Int)<(l.length:Int) by omega)];refine Ao (fun (r:Int)=>[tI r]) l (fun i (_:Unit)=>(([.t (tI i)],[]):List AV×Heap)) (Iu l) (fun _=>0) (fun _ _=>True) () rfl trivial rfl
   (fun i s x hx hI => ?_) (fun _ _ _ _ _ _ _=>trivial) (fun s hI=>Ev.of fun n again => ?_)
  ·have hi:=AY hx;refine (s130 x).mono fun n h again => ?_;simp only [Span.enc] at h;simp only [U0,vv,reduceCtorEq,reduceAdd,reduceEqDiff,hx,Span.enc,(show (i:Int)<l.length by omega),BL (show i<4611686018427387904 by omega),h,Iu];by_cases hv:Valid x
   ·simp only [hv,vv,reduceCtorEq,reduceAdd,reduceEqDiff,not_true_eq_false];by_cases hi0:i=0
    ·subst hi0;simp [AD,Rd.As]
    ·obtain ⟨y,hy⟩:∃y,l[i-1]? = some y:=⟨l[i-1],getElem?_eq_getElem (by omega)⟩
     rw [AX (x:=(i:Int)-1) (by omega) (by omega)];simp only [(show ((i:Int)-1).toNat=i-1 by omega),hy,vv,reduceCtorEq,reduceAdd,reduceEqDiff,(show (0:Int)<i by omega),(show (0:Int)≤(i:Int)-1 by omega),hi0,ne_eq,not_false_eq_true,Option.some.injEq];simp only [Span.enc,vv,reduceCtorEq,reduceAdd,reduceEqDiff];by_cases hq:x.fro≤y.to<;>simp [hq,AD,Rd.As,Rd.BX]
   ·simp [hv,AD,Rd.BX]
  ·simp only [U0,vv,reduceCtorEq,reduceAdd,reduceEqDiff,lt_irrefl]
end Ab
namespace Ab
open Go
def ED (l:List Span):Int:=match l.getLast? with
 |some x=>x.to
 |none=>0
def D0 (l:List Span):Int:=match l.head? with
 |some x=>x.fro
 |none=>0
def inside (l:List Span) (t:Int):Bool:=decide (D5 l=0∧(l=[]∨0≤D0 l∧ED l≤t))
theorem Na {l:List Span} (h:l≠[]):l[0]? = some (l.head h)∧D0 l=(l.head h).fro:=by
 cases l with
 |nil=>exact (h rfl).elim
 |cons x l=>exact ⟨rfl,rfl⟩
theorem NW {l:List Span} (h:l≠[]):l[l.length-1]? = some (l.getLast h)∧ED l=(l.getLast h).to:=by
 refine ⟨?_,?_⟩
 ·rw [← List.getLast?_eq_getElem?,List.getLast?_eq_some_getLast h]
 ·unfold ED;rw [List.getLast?_eq_some_getLast h]
theorem Cg {l:List Span} (h:D5 l=0):l.length≤1000:=by
 unfold D5 at h;split at h
 ·cases h
 ·omega
theorem s36 (l:List Span) (t:Int):AL C 36 [.sl 2 (l.map Span.enc),tI t] [.bool (inside l t)]:=by
 refine AL.of (fun n=>e36 n _ _) ?_;refine (s80 l).mono fun n h => ?_;simp only [h,vv,reduceCtorEq,reduceAdd,reduceEqDiff,inside];by_cases hc:D5 l=0
 ·by_cases hl:l=[]
  ·subst hl;simp [hc,AD]
  ·obtain ⟨g1,g2⟩:=Na hl;obtain ⟨g3,g4⟩:=NW hl;have hp:=length_pos_iff.2 hl;have hm:=Cg hc;rw [AX (x:=(l.length:Int)-1) (by omega) (by omega)];simp only [hc,beq_self_eq_true,vv,reduceCtorEq,reduceAdd,reduceEqDiff,(show ¬((l.length:Int)=0) by omega),(show ¬(l.length=0) by omega),g1,g2,g4,(show ((l.length:Int)-1).toNat=l.length-1 by omega),g3,Span.enc,(show (0:Int)≤(l.length:Int)-1 by omega),hl,beq_iff_eq];by_cases hq:0≤(l.head hl).fro<;>simp [hq,AD]
 ·simp [hc,AD]
def Bm (x:Seg):Prop:=(0≤x.ses∧x.ses≤1099511627776)∧(x.kind=3→x.ser=0∧x.off=0∧x.tot=0)∧(x.kind=2→(1≤x.tot∧x.tot≤65536)∧(1≤x.ser∧x.ser≤1099511627776)∧x.off=0)∧
 (x.kind=1→(1≤x.tot∧x.tot≤65536)∧(0≤x.off∧x.off≤x.tot-1)∧(x.chk=true→1≤x.ser∧x.ser≤1099511627776)∧(x.chk=false→x.ser=0))
def Cj (x:Seg):Prop:=(x.kind=3→x.chk=false∧x.data.size=0∧x.claims=[])∧(x.kind=2→x.chk=false∧x.data.size=0∧inside x.claims x.tot=true)∧
 (x.kind=1→(1≤x.data.size∧x.data.size≤16)∧(x.data.size:Int)≤x.tot-x.off∧x.claims=[])
instance (x:Seg):Decidable (Bm x):=by unfold Bm;exact inferInstance
instance (x:Seg):Decidable (Cj x):=by unfold Cj;exact inferInstance
def DN (x:Seg):Int:=if ¬(1≤x.kind∧x.kind≤3) then 8 else if ¬Bm x then 2 else if ¬Cj x then 1 else 0
theorem Dn (a b:ByteArray):(a==b)=decide (a=b):=by obtain ⟨a⟩:=a;obtain ⟨b⟩:=b;show (a==b)=_;rw [Bool.eq_iff_iff,beq_iff_eq,decide_eq_true_eq,ByteArray.mk.injEq]
theorem Cn (a:ByteArray):(a==ByteArray.mk #[])=decide (a.size=0):=by
 rw [Dn,Bool.eq_iff_iff,decide_eq_true_eq,decide_eq_true_eq];constructor
 ·rintro rfl;rfl
 ·intro h;obtain ⟨d⟩:=a;have:d = #[]:=eq_empty_of_size_eq_zero h;rw [this]
theorem s135 (x:Seg):AL C 135 x.enc [.bool (decide (x.ser=0∧x.tot=0∧x.off=0))]:=by refine AL.of (fun n=>e135 n _ _ _ _ _ _ _ _) (Ev.of fun n => ?_);simp only [He];congr 3;rw [Bool.eq_iff_iff,decide_eq_true_eq];simp
theorem s136 (x:Seg):AL C 136 x.enc [.bool (decide (x.chk=false∧x.data.size=0∧x.claims=[]))]:=by refine AL.of (fun n=>e136 n _ _ _ _ _ _ _ _) (Ev.of fun n => ?_);simp only [He,Cn,vv,reduceCtorEq,reduceAdd,reduceEqDiff];congr 3;rw [Bool.eq_iff_iff,decide_eq_true_eq];simp
theorem s133 (x:Seg):AL C 133 x.enc [.bool (decide (1≤x.ser∧(1≤x.tot∧x.tot≤65536)∧x.off=0))]:=by refine AL.of (fun n=>e133 n _ _ _ _ _ _ _ _) ?_;refine (s35 x.tot 1 65536).mono fun n h => ?_;simp only [h,vv,reduceCtorEq,reduceAdd,reduceEqDiff,wi,He];congr 3;rw [Bool.eq_iff_iff,decide_eq_true_eq];simp
theorem s134 (x:Seg):AL C 134 x.enc [.bool (decide (x.chk=false∧x.data.size=0∧inside x.claims x.tot=true))]:=by
 refine AL.of (fun n=>e134 n _ _ _ _ _ _ _ _) ?_;refine (s36 x.claims x.tot).mono fun n h => ?_;simp only [h,vv,reduceCtorEq,reduceAdd,reduceEqDiff,Cn,He];congr 3;rw [Bool.eq_iff_iff,decide_eq_true_eq];have:inside x.claims x.tot=true→x.claims.length≤1000:=fun h=>by unfold inside at h;exact Cg (of_decide_eq_true h).1
 by_cases hi:inside x.claims x.tot=true
 ·have h2:=this hi;simp [hi]
  intros
  omega
 ·simp [hi]
theorem s131 (x:Seg):AL C 131 x.enc [.bool (decide ((1≤x.tot∧x.tot≤65536)∧(0≤x.off∧x.off≤x.tot-1)∧(1≤x.ser↔x.chk=true)))]:=by
 refine AL.of (fun n=>e131 n _ _ _ _ _ _ _ _) ?_;refine ((s35 x.tot 1 65536).and (s35 x.off 0 (w64 (x.tot-1)))).mono fun n h => ?_;obtain ⟨h1,h2⟩:=h;simp only [h1,h2,vv,reduceCtorEq,reduceAdd,reduceEqDiff,wi,He];congr 3;rw [Bool.eq_iff_iff,decide_eq_true_eq];by_cases ht:1≤x.tot∧x.tot≤65536
 ·rw [AX (x:=x.tot-1) (by omega) (by omega)];cases hc:x.chk<;>simp [ht]<;>omega
 ·simp [ht]
theorem s132 (x:Seg) (hn:0≤x.off∧x.off≤65536∧0≤x.tot∧x.tot≤65536):AL C 132 x.enc [.bool (decide ((1≤x.data.size∧x.data.size≤16)∧(x.data.size:Int)≤x.tot-x.off∧x.claims=[]))]:=by
 refine AL.of (fun n=>e132 n _ _ _ _ _ _ _ _) ?_;refine (s35 (x.data.size:Int) 1 (if w64 (x.tot-x.off)<16 then w64 (x.tot-x.off) else 16)).mono fun n h1 => ?_;simp only [h1,vv,reduceCtorEq,reduceAdd,reduceEqDiff,wi,He];congr 3;rw [Bool.eq_iff_iff,decide_eq_true_eq];rw [AX (x:=x.tot-x.off) (by omega) (by omega)];by_cases hc:x.claims=[]
 ·simp [hc];split<;>omega
 ·simp [hc]
theorem nc0:((0:Nat):Int)=0:=rfl
theorem nc1:((1:Nat):Int)=1:=rfl
theorem nc2:((2:Nat):Int)=2:=rfl
theorem nc3:((3:Nat):Int)=3:=rfl
theorem s38 (x:Seg):AL C 38 x.enc [tI (DN x)]:=by
 refine AL.of (fun n=>e38 n _ _ _ _ _ _ _ _) ?_;unfold DN;by_cases hk:1≤x.kind∧x.kind≤3
 ·have hkk:x.kind=1∨x.kind=2∨x.kind=3:=by omega
  by_cases hs:0≤x.ses∧x.ses≤1099511627776
  ·by_cases hr:0≤x.ser∧x.ser≤1099511627776
   ·rcases hkk with h1|h1|h1
    ·by_cases hq:(1≤x.tot∧x.tot≤65536)∧(0≤x.off∧x.off≤x.tot-1)∧(1≤x.ser↔x.chk=true)
     ·have hn:Bm x:=by unfold Bm;refine ⟨hs,by omega,by omega,fun _=>⟨hq.1,hq.2.1,fun hc=>⟨hq.2.2.2 hc,hr.2⟩,fun hc => ?_⟩⟩;have:=mt hq.2.2.1 (by simp [hc]);omega
      refine ((s35 x.kind 1 3).and ((s35 x.ses 0 1099511627776).and ((s35 x.ser 0 1099511627776).and ((s131 x).and (s132 x (by omega)))))).mono fun n h => ?_;obtain ⟨g1,g2,g3,g4,g5⟩:=h;simp only [Seg.enc,h1] at g1 g4 g5;have hc:Cj x↔((1≤x.data.size∧x.data.size≤16)∧(x.data.size:Int)≤x.tot-x.off∧x.claims=[]):=by unfold Cj;simp [h1]
      simp only [g1,g2,g3,g4,g5,wi,hk,hs,hr,hq,hn,h1,hc,vv,reduceCtorEq,reduceAdd,reduceEqDiff,not_true_eq_false,Int.reduceEq,Int.reduceLE,Int.reduceLT,nc0,nc1,nc2,nc3,Lw,Lv];by_cases hd:((1≤x.data.size∧x.data.size≤16)∧(x.data.size:Int)≤x.tot-x.off∧x.claims=[])<;>simp [hd,AD]
     ·have hn:¬Bm x:=by
       intro hn;unfold Bm at hn;have:=hn.2.2.2 h1;refine hq ⟨this.1,this.2.1,fun h => ?_,fun h=>(this.2.2.1 h).1⟩;cases hc:x.chk
       ·have:=this.2.2.2 hc;omega
       ·rfl
      refine ((s35 x.kind 1 3).and ((s35 x.ses 0 1099511627776).and ((s35 x.ser 0 1099511627776).and (s131 x)))).mono fun n h => ?_;obtain ⟨g1,g2,g3,g4⟩:=h;simp only [Seg.enc,h1] at g1 g4;simp only [g1,g2,g3,g4,wi,hk,hs,hr,hq,hn,h1,vv,reduceCtorEq,reduceAdd,reduceEqDiff,not_true_eq_false,not_false_eq_true,Int.reduceEq,Int.reduceLE,Int.reduceLT,nc0,nc1,nc2,nc3,Lw,Lv]
    ·refine ((s35 x.kind 1 3).and ((s35 x.ses 0 1099511627776).and ((s35 x.ser 0 1099511627776).and ((s133 x).and (s134 x))))).mono fun n h => ?_;obtain ⟨g1,g2,g3,g4,g5⟩:=h;simp only [Seg.enc,h1] at g1 g4 g5;have hn:Bm x↔(1≤x.ser∧(1≤x.tot∧x.tot≤65536)∧x.off=0):=by unfold Bm;simp [h1];omega
     have hc:Cj x↔(x.chk=false∧x.data.size=0∧inside x.claims x.tot=true):=by unfold Cj;simp [h1]
     simp only [g1,g2,g3,g4,g5,wi,hk,hs,hr,hn,h1,hc,vv,reduceCtorEq,reduceAdd,reduceEqDiff,not_true_eq_false,Int.reduceEq,Int.reduceLE,Int.reduceLT,nc0,nc1,nc2,nc3,Lw,Lv];by_cases hd:(1≤x.ser∧(1≤x.tot∧x.tot≤65536)∧x.off=0)<;>by_cases he:(x.chk=false∧x.data.size=0∧inside x.claims x.tot=true)<;>simp only [hd,he,vv,reduceCtorEq,reduceAdd,reduceEqDiff,not_true_eq_false,not_false_eq_true]
    ·refine ((s35 x.kind 1 3).and ((s35 x.ses 0 1099511627776).and ((s35 x.ser 0 1099511627776).and ((s135 x).and (s136 x))))).mono fun n h => ?_;obtain ⟨g1,g2,g3,g4,g5⟩:=h;simp only [Seg.enc,h1] at g1 g4 g5;have hn:Bm x↔(x.ser=0∧x.tot=0∧x.off=0):=by unfold Bm;simp [h1];omega
     have hc:Cj x↔(x.chk=false∧x.data.size=0∧x.claims=[]):=by unfold Cj;simp [h1]
     simp only [g1,g2,g3,g4,g5,wi,hk,hs,hr,hn,h1,hc,vv,reduceCtorEq,reduceAdd,reduceEqDiff,not_true_eq_false,Int.reduceEq,Int.reduceLE,Int.reduceLT,nc0,nc1,nc2,nc3,Lw,Lv];by_cases hd:(x.ser=0∧x.tot=0∧x.off=0)<;>by_cases he:(x.chk=false∧x.data.size=0∧x.claims=[])<;>simp only [hd,he,vv,reduceCtorEq,reduceAdd,reduceEqDiff,not_true_eq_false,not_false_eq_true]
   ·have hn:¬Bm x:=by
     intro hn;unfold Bm at hn;rcases hkk with h1|h1|h1
     ·have:=hn.2.2.2 h1;cases hc:x.chk
      ·have:=this.2.2.2 hc;omega
      ·have:=this.2.2.1 hc;omega
     ·have:=hn.2.2.1 h1;omega
     ·have:=hn.2.1 h1;omega
    refine ((s35 x.kind 1 3).and ((s35 x.ses 0 1099511627776).and (s35 x.ser 0 1099511627776))).mono fun n h => ?_;obtain ⟨g1,g2,g3⟩:=h;rcases hkk with h1|h1|h1<;>simp only [h1] at g1<;>simp only [g1,g2,g3,wi,hk,hs,hr,hn,h1,vv,reduceCtorEq,reduceAdd,reduceEqDiff,not_true_eq_false,not_false_eq_true,Int.reduceEq,Int.reduceLE,Int.reduceLT,nc0,nc1,nc2,nc3,Lw,Lv]
  ·have hn:¬Bm x:=by intro hn;unfold Bm at hn;exact hs hn.1
   refine ((s35 x.kind 1 3).and (s35 x.ses 0 1099511627776)).mono fun n h => ?_;obtain ⟨g1,g2⟩:=h;rcases hkk with h1|h1|h1<;>simp only [h1] at g1<;>simp only [g1,g2,wi,hk,hs,hn,h1,vv,reduceCtorEq,reduceAdd,reduceEqDiff,not_true_eq_false,not_false_eq_true,Int.reduceEq,Int.reduceLE,Int.reduceLT,nc0,nc1,nc2,nc3,Lw,Lv]
 ·refine (s35 x.kind 1 3).mono fun n h1 => ?_;simp only [h1,vv,reduceCtorEq,reduceAdd,reduceEqDiff,wi,hk,not_false_eq_true]
end Ab
namespace Ab
open Go
theorem s88 (ses ser tot:Int) (l:List Span):AL C 88 [tI ses,tI ser,tI tot,.sl 2 (l.map Span.enc)] (if DN ⟨2,ses,ser,0,tot,false,ByteArray.mk #[],l⟩=0 then (Seg.enc ⟨2,ses,ser,0,tot,false,ByteArray.mk #[],l⟩)++[tI 0] else (Seg.enc ⟨0,0,0,0,0,false,ByteArray.mk #[],[]⟩)++[tI (DN ⟨2,ses,ser,0,tot,false,ByteArray.mk #[],l⟩)]):=by
 refine AL.of (fun n=>e88 n _ _ _ _) ?_;refine (s38 ⟨2,ses,ser,0,tot,false,ByteArray.mk #[],l⟩).mono fun n h => ?_;simp only [Seg.enc] at h;simp only [h,vv,reduceCtorEq,reduceAdd,reduceEqDiff];by_cases hc:DN ⟨2,ses,ser,0,tot,false,ByteArray.mk #[],l⟩=0
 ·simp [hc,AD,Seg.enc]
 ·simp [hc,AD,Seg.enc]
theorem tdiv_nn {a b:Int} (h:0≤a):tdiv a b=a / b:=Int.tdiv_eq_ediv_of_nonneg h
theorem s13 (a b:Seg) (ha:a.claims.length≤1000000):AL C 13 (a.enc++b.enc) [.bool (decide (a=b))]:=by refine AL.of (fun n=>e13 n _ _ _ _ _ _ _ _ _ _ _ _ _ _ _ _) ?_;refine (s43 a.claims b.claims ha).mono fun n h => ?_;simp only [h,vv,reduceCtorEq,reduceAdd,reduceEqDiff,He,Dn];congr 3;cases a;cases b;simp only [Seg.mk.injEq];rw [Bool.eq_iff_iff,decide_eq_true_eq];simp
end Ab
namespace Ab
open Go
def B5 (t:Int):List Span→Prop
 |[]=>False
 |x::l=>(x.fro≤t∧t<x.to)∨B5 t l
def Canon:Int→List Span→Prop
 |_,[]=>True
 |b,x::l=>b<x.fro∧x.fro<x.to∧Canon x.to l
def Top (l:List Span):Prop:=∀x∈l,x.to≤1152921504606846976
theorem CE:∀{l:List Span} {b t:Int},Canon b l→B5 t l→b<t
 |x::l,b,t,h,m=>by
  rcases m with m|m
  ·have:=h.1;omega
  ·have:=CE h.2.2 m;have:=h.1;have:=h.2.1;omega
theorem LU:∀{l:List Span} {b b':Int},Canon b l→b'≤b→Canon b' l
 |[],_,_,_,_=>trivial
 |x::l,b,b',h,hb=>⟨by have:=h.1;omega,h.2.1,h.2.2⟩
theorem Fo:∀{l l':List Span} {b b':Int},Canon b l→Canon b' l'→(∀t,B5 t l↔B5 t l')→l=l'
 |[],[],_,_,_,_,_=>rfl
 |[],y::l',_,_,_,h',hm=>((hm y.fro).2 (.inl ⟨Int.le_refl _,h'.2.1⟩)).elim
 |x::l,[],_,_,h,_,hm=>((hm x.fro).1 (.inl ⟨Int.le_refl _,h.2.1⟩)).elim
 |x::l,y::l',b,b',h,h',hm=>by
  have e1:x.fro=y.fro:=by
   have h1:y.fro≤x.fro:=by
    rcases (hm x.fro).1 (.inl ⟨Int.le_refl _,h.2.1⟩) with m|m
    ·exact m.1
    ·have:=CE h'.2.2 m;have:=h'.2.1;omega
   have h2:x.fro≤y.fro:=by
    rcases (hm y.fro).2 (.inl ⟨Int.le_refl _,h'.2.1⟩) with m|m
    ·exact m.1
    ·have:=CE h.2.2 m;have:=h.2.1;omega
   omega
  have e2:x.to=y.to:=by
   have hx:=h.2.1;have hy:=h'.2.1;rcases Int.lt_trichotomy x.to y.to with q|q|q
   ·rcases (hm x.to).2 (.inl ⟨by omega,q⟩) with m|m
    ·omega
    ·have:=CE h.2.2 m;omega
   ·exact q
   ·rcases (hm y.to).1 (.inl ⟨by omega,q⟩) with m|m
    ·omega
    ·have:=CE h'.2.2 m;omega
  have e3:l=l':=Fo h.2.2 h'.2.2 fun t=>by
   have:=hm t;simp only [B5,e1,e2] at this;constructor
   ·intro m;rcases this.1 (.inr m) with q|q
    ·have:=CE h.2.2 m;omega
    ·exact q
   ·intro m;rcases this.2 (.inr m) with q|q
    ·have:=CE h'.2.2 m;omega
    ·exact q
  cases x;cases y;simp only at e1 e2;rw [e1,e2,e3]
def CV:Option Int→List Span→Prop
 |_,[]=>True
 |o,x::l=>Valid x∧(∀p,o=some p→p<x.fro)∧CV (some x.to) l
theorem Rg (L:List Span):∀(l pre:List Span),L=pre++l→(B9 (Iu L) (fun _=>(0:Int)) pre.length l ()=0↔CV (pre.getLast?.map (·.to)) l)
 |[],pre,h=>by simp [B9,CV]
 |x::l,pre,h=>by
  have ih:=Rg L l (pre++[x]) (by simp [h]);simp only [length_append,length_cons,length_nil,zero_add,List.getLast?_append,List.getLast?_singleton,some_or,map_some] at ih;simp only [B9,CV,Iu];by_cases hv:Valid x
  ·simp only [hv,not_true_eq_false,if_false,true_and];rcases List.eq_nil_or_concat pre with rfl|⟨q,y,rfl⟩
   ·simp only [length_nil,ne_eq,not_true_eq_false,false_and,if_false,List.getLast?_nil,map_none,reduceCtorEq,false_implies,implies_true,true_and];simpa using ih
   ·rw [List.concat_eq_append] at h ih ⊢;have e:L[(q++[y]).length-1]? = some y:=by rw [h];simp
    simp only [e,map_some,Option.some.injEq,decide_eq_true_eq];simp only [length_append,length_cons,length_nil,zero_add,ne_eq,Nat.add_eq_zero_iff,Nat.one_ne_zero,and_false,not_false_eq_true,true_and,List.getLast?_append,List.getLast?_singleton,some_or,map_some,Option.some.injEq,forall_eq'];simp only [length_append,length_cons,length_nil,zero_add] at ih;by_cases hq:x.fro≤y.to
    ·simp only [hq,if_true];constructor
     ·intro h;cases h
     ·rintro ⟨h,_⟩;omega
    ·simp only [hq,if_false];rw [ih];constructor
     ·intro h;exact ⟨by omega,h⟩
     ·exact fun h=>h.2
  ·simp only [hv,not_false_eq_true,if_true,false_and,iff_false];intro h;cases h
theorem Oy:∀(l:List Span) (o:Option Int) (b:Int),(∀p,o=some p→p=b)→(o=none→b = -1152921504606846977)→ -1152921504606846977≤b→(CV o l↔Canon b l∧Top l)
 |[],o,b,_,_,_=>by simp [CV,Canon,Top]
 |x::l,o,b,h1,h2,h3=>by
  have ih:=fun hb=>Oy l (some x.to) x.to (fun p hp=>(Option.some.inj hp).symm) (fun h=>by cases h) hb;simp only [CV,Canon,Top,mem_cons,forall_eq_or_imp];constructor
  ·rintro ⟨⟨v1,v2,v3⟩,g1,g2⟩
   have:=(ih (by omega)).1 g2;refine ⟨⟨?_,v1,this.1⟩,v3,this.2⟩;cases o with
   |none=>have:=h2 rfl;omega
   |some p=>have:=g1 p rfl;have:=h1 p rfl;omega
  ·rintro ⟨⟨g1,g2,g3⟩,g4,g5⟩
   refine ⟨⟨g2,by omega,g4⟩,fun p hp => ?_,(ih (by omega)).2 ⟨g3,g5⟩⟩;have:=h1 p hp;omega
theorem BM (l:List Span):D5 l=0↔l.length≤1000∧Canon (-1152921504606846977) l∧Top l:=by
 have:=Rg l l [] rfl;simp only [length_nil,List.getLast?_nil,map_none] at this;rw [Oy l none (-1152921504606846977) (by simp) (by simp) (by omega)] at this;unfold D5;split
 ·constructor
  ·intro h;cases h
  ·intro h;omega
 ·rw [this];constructor
  ·intro h;exact ⟨by omega,h⟩
  ·exact fun h=>h.2
structure Sd where
 l:List Span
 i:Bool
def Sd.next (s:Sd):Option Int:=match s.l with
 |[]=>none
 |x::_=>some (if s.i then x.to else x.fro)
def Sd.pass (s:Sd) (t:Int):Sd:=if s.next=some t then ⟨if s.i then s.l.tail else s.l,!s.i⟩ else s
def D2:Option Int→Option Int→Option Int
 |none,o=>o
 |some m,none=>some m
 |some m,some n=>some (if n<m then n else m)
def Sd.sz (s:Sd):Nat:=2*s.l.length-(if s.i then 1 else 0)
def Sd.Inv (s:Sd) (t0:Int):Prop:=match s.l with
 |[]=>s.i=false
 |x::l=>(if s.i then t0<x.to else t0<x.fro∧x.fro<x.to)∧Canon x.to l
def Sd.mem (s:Sd) (t:Int):Prop:=match s.l with
 |[]=>False
 |x::l=>(if s.i then t<x.to else x.fro≤t∧t<x.to)∨B5 t l
theorem Sd.IS {s:Sd} {t0 t1:Int} (h:s.Inv t0) (ht:t0<t1) (hn:∀n,s.next=some n→t1≤n):(s.pass t1).Inv t1∧∀t,t1≤t→((s.pass t1).mem t↔s.mem t):=by
 obtain ⟨l,i⟩:=s;cases l with
 |nil=>simp [Sd.pass,Sd.next,Sd.Inv,Sd.mem] at *;exact h
 |cons x l=>
  simp only [Sd.next] at hn;have hn:=hn _ rfl;cases i with
  |true=>
   simp only [Sd.Inv,if_true] at h hn;by_cases hq:x.to=t1
   ·simp only [Sd.pass,Sd.next,if_true,hq,List.tail_cons,Bool.not_true];refine ⟨?_,fun t ht => ?_⟩
    ·cases l with
     |nil=>rfl
     |cons y l=>exact ⟨by simp only [false_eq_true,if_false];exact ⟨hq ▸ h.2.1,h.2.2.1⟩,h.2.2.2⟩
    ·simp only [Sd.mem,if_true];have:¬t<x.to:=by omega
     simp only [this,false_or];cases l<;>simp [B5]
   ·simp only [Sd.pass,Sd.next,if_true,Option.some.injEq,hq,if_false];exact ⟨⟨by simp only [if_true];omega,h.2⟩,fun _ _=>by first|exact Iff.rfl|trivial⟩
  |false=>
   simp only [Sd.Inv,false_eq_true,if_false] at h hn;by_cases hq:x.fro=t1
   ·simp only [Sd.pass,Sd.next,false_eq_true,if_false,hq,if_true,Bool.not_false];refine ⟨⟨by simp only [if_true];omega,h.2⟩,fun t ht => ?_⟩;simp only [Sd.mem,if_true,false_eq_true,if_false];have:x.fro≤t:=by omega
    simp only [this,true_and]
   ·simp only [Sd.pass,Sd.next,false_eq_true,if_false,Option.some.injEq,hq];exact ⟨⟨by simp only [false_eq_true,if_false];omega,h.2⟩,fun _ _=>by first|exact Iff.rfl|trivial⟩
theorem Sd.still {s:Sd} {t0 t:Int} (h:s.Inv t0) (ht:t0≤t) (hn:∀n,s.next=some n→t<n):s.mem t↔s.i=true:=by
 obtain ⟨l,i⟩:=s;cases l with
 |nil=>simp [Sd.mem,Sd.Inv] at *;exact h
 |cons x l=>
  simp only [Sd.next] at hn;have hn:=hn _ rfl;have hl:∀{u},u<x.to→¬B5 u l:=fun hu m=>by have:=CE h.2 m;omega
  cases i with
  |true=>
   simp only [Sd.mem,if_true] at hn ⊢;simp [hn]
  |false=>
   simp only [Sd.Inv,Sd.mem,false_eq_true,if_false] at hn h ⊢;have:=hl (show t<x.to by omega);simp only [this,or_false,iff_false];omega
theorem Sd.after {s:Sd} {t0 n:Int} (h:s.Inv t0) (hn:s.next=some n):t0<n:=by
 obtain ⟨l,i⟩:=s;cases l with
 |nil=>cases hn
 |cons x l=>
  simp only [Sd.next,Option.some.injEq] at hn;cases i with
  |true=>simp only [Sd.Inv,if_true] at h hn;omega
  |false=>simp only [Sd.Inv,false_eq_true,if_false] at h hn;omega
theorem Sd.Gv (s:Sd) (t:Int):(s.pass t).sz≤s.sz∧(s.next=some t→(s.pass t).sz<s.sz):=by
 obtain ⟨l,i⟩:=s;unfold Sd.pass;cases l with
 |nil=>simp [Sd.next]
 |cons x l=>
  split
  ·cases i<;>simp [Sd.sz]<;>omega
  ·rename_i h;exact ⟨le_refl _,fun h2=>(h h2).elim⟩
theorem Gr {a b:Option Int} {t:Int} (h:D2 a b=some t):(a=some t∨b=some t)∧(∀n,a=some n→t≤n)∧∀n,b=some n→t≤n:=by
 cases a with
 |none=>cases b with
  |none=>cases h
  |some n=>simp [D2] at h;subst h;simp
 |some m=>cases b with
  |none=>simp [D2] at h;subst h;simp
  |some n=>
   simp only [D2,Option.some.injEq] at h;split at h<;>subst h<;>simp<;>omega
def go (f:Bool→Bool→Bool) (a b:Sd) (o:Option Int):List Span:=
 match h:D2 a.next b.next with
 |none=>[]
 |some t=>
  if f (a.pass t).i (b.pass t).i=true then go f (a.pass t) (b.pass t) (some (o.getD t))
  else match o with
   |some s=>⟨s,t⟩::go f (a.pass t) (b.pass t) none
   |none=>go f (a.pass t) (b.pass t) none
termination_by a.sz+b.sz
decreasing_by
 all_goals
  have h1:=(Gr h).1;have h2:=a.Gv t;have h3:=b.Gv t;rcases h1 with h1|h1
  ·have:=h2.2 h1;omega
  ·have:=h3.2 h1;omega
theorem MJ {a b:Option Int} (h:D2 a b=none):a=none∧b=none:=by cases a<;>cases b<;>simp [D2] at h ⊢
theorem MV {s:Sd} (h:s.next=none):s.l=[]:=by
 obtain ⟨l,i⟩:=s;cases l with
 |nil=>rfl
 |cons x l=>simp [Sd.next] at h
def EE (f:Bool→Bool→Bool) (a b:Sd) (u:Int):Prop:=∃p q:Bool,(a.mem u↔p=true)∧(b.mem u↔q=true)∧f p q=true
theorem TN {f:Bool→Bool→Bool} {a b:Sd} {o:Option Int} {t0 t:Int} (h:D2 a.next b.next=some t) (ha:a.Inv t0) (hb:b.Inv t0) (ho:o.isSome=f a.i b.i) (h1:∀s,o=some s→s≤t0) (u:Int) :
  ((∃s,o=some s∧s≤u∧u<t0)∨(t0≤u∧EE f a b u))↔((∃s,o=some s∧s≤u∧u<t)∨(t≤u∧EE f (a.pass t) (b.pass t) u)):=by
 obtain ⟨e1,e2,e3⟩:=Gr h;have ht:t0<t:=by
  rcases e1 with e|e
  ·exact Sd.after ha e
  ·exact Sd.after hb e
 obtain ⟨a1,a2⟩:=Sd.IS ha ht e2;obtain ⟨b1,b2⟩:=Sd.IS hb ht e3;rcases Int.lt_or_le u t0 with hu|hu
 ·have n1:¬t0≤u:=by omega
  have n2:¬t≤u:=by omega
  have n3:u<t:=by omega
  simp only [n1,n2,n3,hu,false_and,or_false,and_true]
 ·rcases Int.lt_or_le u t with hv|hv
  ·have n1:¬u<t0:=by omega
   have n2:¬t≤u:=by omega
   have m1:=Sd.still ha hu (fun n hn=>by have:=e2 n hn;omega);have m2:=Sd.still hb hu (fun n hn=>by have:=e3 n hn;omega);have hE:EE f a b u↔f a.i b.i=true:=by
    constructor
    ·rintro ⟨p,q,g1,g2,g3⟩
     rw [m1] at g1;rw [m2] at g2;rw [Bool.eq_iff_iff.2 g1,Bool.eq_iff_iff.2 g2];exact g3
    ·exact fun g=>⟨_,_,m1,m2,g⟩
   simp only [n1,n2,hv,hu,and_false,exists_false,false_or,true_and,false_and,or_false,and_true,hE,← ho];cases o with
   |none=>simp
   |some s=>have:=h1 s rfl;simp;omega
  ·have n1:¬u<t0:=by omega
   have n2:¬u<t:=by omega
   have hE:EE f a b u↔EE f (a.pass t) (b.pass t) u:=by unfold EE;simp only [a2 u hv,b2 u hv]
   simp only [n1,n2,hu,hv,and_false,exists_false,false_or,true_and,hE]
theorem RW {f:Bool→Bool→Bool} {a b:Sd} {o:Option Int} (h:D2 a.next b.next=none):go f a b o=[]:=by
 rw [go];split
 ·rfl
 ·rename_i t h';rw [h] at h';cases h'
theorem RV {f:Bool→Bool→Bool} {a b:Sd} {o:Option Int} {t:Int} (h:D2 a.next b.next=some t):go f a b o=if f (a.pass t).i (b.pass t).i=true then go f (a.pass t) (b.pass t) (some (o.getD t))
  else match o with
   |some s=>⟨s,t⟩::go f (a.pass t) (b.pass t) none
   |none=>go f (a.pass t) (b.pass t) none:=by
 conv=>lhs;rw [go]
 split
 ·rename_i h';rw [h] at h';cases h'
 ·rename_i t' h';rw [h] at h';cases h';rfl
theorem go_spec (f:Bool→Bool→Bool) (hf:f false false=false):∀(k:Nat) (a b:Sd) (o:Option Int) (t0 lo:Int),a.sz+b.sz<k→a.Inv t0→b.Inv t0→(o.isSome=f a.i b.i)→(∀s,o=some s→lo<s∧s≤t0)→(o=none→lo≤t0)→
  Canon lo (go f a b o)∧∀t,B5 t (go f a b o)↔(∃s,o=some s∧s≤t∧t<t0)∨(t0≤t∧EE f a b t):=by
 intro k
 induction k with
 |zero=>intro a b o t0 lo hk;omega
 |succ k ih=>
  intro a b o t0 lo hk ha hb ho h1 h2;cases h:D2 a.next b.next with
  |none=>
   obtain ⟨e1,e2⟩:=MJ h;have l1:=MV e1;have l2:=MV e2;have i1:a.i=false:=by simpa [Sd.Inv,l1] using ha
   have i2:b.i=false:=by simpa [Sd.Inv,l2] using hb
   rw [i1,i2,hf] at ho;obtain rfl:o=none:=by cases o<;>simp at ho ⊢
   rw [RW h];refine ⟨trivial,fun t => ?_⟩;simp only [B5,reduceCtorEq,false_and,exists_false,false_or,false_iff]
   rintro ⟨_,p,q,g1,g2,g3⟩
   simp only [Sd.mem,l1,l2,false_iff] at g1 g2;cases p<;>cases q<;>simp_all
  |some t=>
   obtain ⟨e1,e2,e3⟩:=Gr h;have ht:t0<t:=by
    rcases e1 with e|e
    ·exact Sd.after ha e
    ·exact Sd.after hb e
   obtain ⟨a1,a2⟩:=Sd.IS ha ht e2;obtain ⟨b1,b2⟩:=Sd.IS hb ht e3;have hsz:(a.pass t).sz+(b.pass t).sz<k:=by
    have h2:=a.Gv t;have h3:=b.Gv t;rcases e1 with h1|h1
    ·have:=h2.2 h1;omega
    ·have:=h3.2 h1;omega
   have hsem:=TN h ha hb ho (fun s e=>(h1 s e).2);rw [RV h];by_cases hc:f (a.pass t).i (b.pass t).i=true
   ·rw [if_pos hc];have hs:lo<o.getD t∧o.getD t≤t:=by
     cases o with
     |none=>have:=h2 rfl;simp;omega
     |some s=>have:=h1 s rfl;simp;omega
    obtain ⟨k1,k2⟩:=ih (a.pass t) (b.pass t) (some (o.getD t)) t lo hsz a1 b1 (by simp [hc]) (fun s e=>by cases e;exact hs) (fun e=>by cases e);refine ⟨k1,fun u => ?_⟩;rw [k2 u,hsem u];cases o with
    |none=>simp;omega
    |some s=>simp
   ·rw [if_neg hc];have hc':f (a.pass t).i (b.pass t).i=false:=by simpa using hc
    cases o with
    |none=>
     obtain ⟨k1,k2⟩:=ih (a.pass t) (b.pass t) none t lo hsz a1 b1 (by simp [hc']) (fun s e=>by cases e) (fun e=>by have:=h2 rfl;omega);refine ⟨k1,fun u => ?_⟩;rw [k2 u,hsem u]
    |some s=>
     have hs:=h1 s rfl;obtain ⟨k1,k2⟩:=ih (a.pass t) (b.pass t) none t t hsz a1 b1 (by simp [hc']) (fun s e=>by cases e) (fun e=>Int.le_refl _);refine ⟨⟨hs.1,by simp only;omega,k1⟩,fun u => ?_⟩;simp only [B5];rw [k2 u,hsem u];simp
end Ab
namespace Ab
open Go
theorem O5 {l:List Span} {b:Int} (h:Canon b l):∀y∈l,b<y.fro∧y.fro<y.to:=by
 induction l generalizing b with
 |nil=>simp
 |cons x l ih=>
  intro y hy;rcases mem_cons.1 hy with rfl|hy
  ·exact ⟨h.1,h.2.1⟩
  ·have:=ih h.2.2 y hy;have h1:=h.1;have h2:=h.2.1;omega
instance decMem (t:Int):(l:List Span)→Decidable (B5 t l)
 |[]=>.isFalse id
 |x::l=>@instDecidableOr _ _ inferInstance (decMem t l)
def uni (a b:List Span):List Span:=go (fun p q=>p||q) ⟨a,false⟩ ⟨b,false⟩ none
def min_ (a b:List Span):List Span:=go (fun p q=>p && !q) ⟨a,false⟩ ⟨b,false⟩ none
theorem Me {l:List Span} (h:Canon (-1152921504606846977) l):Sd.Inv ⟨l,false⟩ (-1152921504606846977):=by
 cases l with
 |nil=>rfl
 |cons x l=>exact ⟨by simp only [false_eq_true,if_false];exact ⟨h.1,h.2.1⟩,h.2.2⟩
theorem SJ {l:List Span} {t:Int}:Sd.mem ⟨l,false⟩ t↔B5 t l:=by cases l<;>simp [Sd.mem,B5]
theorem OF {a b:List Span} (ha:Canon (-1152921504606846977) a) (hb:Canon (-1152921504606846977) b):Canon (-1152921504606846977) (uni a b)∧∀t,B5 t (uni a b)↔B5 t a∨B5 t b:=by
 obtain ⟨k1,k2⟩:=go_spec (fun p q=>p||q) rfl _ ⟨a,false⟩ ⟨b,false⟩ none (-1152921504606846977) (-1152921504606846977) (Nat.lt_succ_self _) (Me ha) (Me hb) rfl (fun s e=>by cases e) (fun _=>Int.le_refl _);refine ⟨k1,fun t => ?_⟩;show B5 t (go _ _ _ _)↔_;rw [k2 t];simp only [reduceCtorEq,false_and,exists_false,false_or,EE,SJ,or_eq_true];constructor
 ·rintro ⟨_,p,q,h1,h2,h3⟩
  rcases h3 with h3|h3
  ·exact .inl (h1.2 h3)
  ·exact .inr (h2.2 h3)
 ·intro h;refine ⟨?_,_,_,(decide_eq_true_iff (p:=B5 t a)).symm,(decide_eq_true_iff (p:=B5 t b)).symm,?_⟩
  ·rcases h with h|h
   ·have:=CE ha h;omega
   ·have:=CE hb h;omega
  ·rcases h with h|h
   ·exact .inl (decide_eq_true h)
   ·exact .inr (decide_eq_true h)
theorem RA {l:List Span} (ht:Top l) {b:Int} (h:Canon b l) {t:Int} (m:B5 t l):t<1152921504606846976:=by
 induction l generalizing b with
 |nil=>exact m.elim
 |cons x l ih=>
  rcases m with m|m
  ·have:=ht x (by simp);omega
  ·exact ih (fun y hy=>ht y (by simp [hy])) h.2.2 m
theorem mem_top {l:List Span} {b:Int} (h:Canon b l) (hm:∀t,B5 t l→t<1152921504606846976):Top l:=by
 induction l generalizing b with
 |nil=>intro x hx;cases hx
 |cons x l ih=>
  intro y hy;rcases mem_cons.1 hy with rfl|hy
  ·have:=h.2.1;have:=hm (y.to-1) (.inl ⟨by omega,by omega⟩);omega
  ·exact ih h.2.2 (fun t m=>hm t (.inr m)) y hy
end Ab
namespace Ab
open Go
def HH (g v:Nat) (es:List Span) (ins:Bool) (p q:List Span) (pi:Nat) (pb:Bool) (qi:Nat) (qb:Bool):Heap:=[.box [.func (.func g) [] []],.row false v 2 (es.map Span.enc),.box [.sref 1 v 0 es.length],.box [.t (.bool ins)],.box [],.box [.t (.sl 2 (p.map Span.enc)),.t (tI pi),.t (.bool pb)],.box [.t (.sl 2 (q.map Span.enc)),.t (tI qi),.t (.bool qb)]]
def nx (a:List Span) (i:Nat) (xi:Bool):Option Int:=match a[i]? with
 |none=>none
 |some x=>some (if xi then x.to else x.fro)
def nv (o:Option Int):Int:=o.getD 0
def fin (es:List Span):List Tree:=if 1000<es.length then [.sl 2 [],tI 4] else [.sl 2 (es.map Span.enc),tI 0]
def pi_ (a:List Span) (i:Nat) (xi:Bool) (t:Int):Nat:=if nx a i xi=some t∧xi=true then i+1 else i
def pb (a:List Span) (i:Nat) (xi:Bool) (t:Int):Bool:=if nx a i xi=some t then !xi else xi
def opn (cl:List Span) (o:Option Int):List Span:=match o with
 |none=>cl
 |some s=>cl++[⟨s,0⟩]
def ncl (cl:List Span) (o:Option Int) (t:Int) (now:Bool):List Span:=match o,now with
 |some s,false=>cl++[⟨s,t⟩]
 |_,_=>cl
def nop (o:Option Int) (t:Int) (now:Bool):Option Int:=if now then some (o.getD t) else none
theorem Kg {α:Type} (l:List α) (x y:α) (k:Nat) (h:k=l.length):(l++[x]).set k y=l++[y]:=by
 subst h
 induction l with
 |nil=>rfl
 |cons z l ih=>simp [ih]
def Ky (v:Nat) (o:Option Int) (now:Bool):Nat:=match o,now with
 |none,true=>v+1
 |_,_=>v
theorem q1_67_1 (n:Nat) (ag:(List AV×Heap)→Option (List Tree)) (v:Nat) (es:List Span) (ins:Bool) (a b:List Span) (i j:Nat) (xi yi:Bool) (hi:i≤a.length) :
  HE n (([],(HH 188 v es ins a b i xi j yi)):List AV×Heap) ag=JA n ag (([.t (tI (nv (nx a i xi))),.t (.bool (nx a i xi).isSome)],(HH 188 v es ins a b i xi j yi)):List AV×Heap):=by
 unfold nx nv;by_cases h:i=a.length
 ·subst h;have hx:a[a.length]? = none:=getElem?_eq_none (le_refl _);simp only [HE,HH,vv,reduceCtorEq,reduceAdd,reduceEqDiff,hx,beq_self_eq_true,isSome_none,getD_none]
 ·obtain ⟨x,hx⟩:∃x,a[i]? = some x:=⟨a[i]'(by omega),getElem?_eq_getElem (by omega)⟩
  have h':¬((i:Int)=(a.length:Int)):=by omega
  cases xi<;>simp only [HE,HH,vv,reduceCtorEq,reduceAdd,reduceEqDiff,hx,h',beq_iff_eq,Span.enc,isSome_some,Option.getD_some]
theorem q2_67_1 (n:Nat) (ag:(List AV×Heap)→Option (List Tree)) (m:Int) (fx:Bool) (v:Nat) (es:List Span) (ins:Bool) (a b:List Span) (i j:Nat) (xi yi:Bool) (hj:j≤b.length) :
  JA n ag (([.t (tI m),.t (.bool fx)],(HH 188 v es ins a b i xi j yi)):List AV×Heap)=Fv n ag (([.t (tI m),.t (.bool fx)],(HH 188 v es ins a b i xi j yi)):List AV×Heap) (([.t (tI (nv (nx b j yi))),.t (.bool (nx b j yi).isSome)],(HH 188 v es ins a b i xi j yi)):List AV×Heap):=by
 unfold nx nv;by_cases h:j=b.length
 ·subst h;have hx:b[b.length]? = none:=getElem?_eq_none (le_refl _);simp only [JA,HH,vv,reduceCtorEq,reduceAdd,reduceEqDiff,hx,beq_self_eq_true,isSome_none,getD_none]
 ·obtain ⟨x,hx⟩:∃x,b[j]? = some x:=⟨b[j]'(by omega),getElem?_eq_getElem (by omega)⟩
  have h':¬((j:Int)=(b.length:Int)):=by omega
  cases yi<;>simp only [JA,HH,vv,reduceCtorEq,reduceAdd,reduceEqDiff,hx,h',beq_iff_eq,Span.enc,isSome_some,Option.getD_some]
theorem q3_67_1 (n:Nat) (ag:(List AV×Heap)→Option (List Tree)) (ox oy:Option Int) (v:Nat) (es:List Span) (ins:Bool) (a b:List Span) (i j:Nat) (xi yi:Bool) :
  Fv n ag (([.t (tI (nv ox)),.t (.bool ox.isSome)],(HH 188 v es ins a b i xi j yi)):List AV×Heap) (([.t (tI (nv oy)),.t (.bool oy.isSome)],(HH 188 v es ins a b i xi j yi)):List AV×Heap)=match D2 ox oy with
   |none=>some (fin es)
   |some t=>HJ n ag (([.t (tI t)],(HH 188 v es ins a b i xi j yi)):List AV×Heap):=by
 have hl:∀l:List Span,take l.length (List.map Span.enc l)=List.map Span.enc l:=fun l=>by rw [take_of_length_le (by simp)]
 cases ox with
 |none=>cases oy with
  |none=>
   simp only [Fv,JB,HH,vv,reduceCtorEq,reduceAdd,reduceEqDiff,D2,nv,isSome_none,getD_none,fin];by_cases h:1000<es.length
   ·simp only [h,(show (1000:Int)<(es.length:Int) by omega),vv,reduceCtorEq,reduceAdd,reduceEqDiff]
   ·simp only [h,(show ¬(1000:Int)<(es.length:Int) by omega),vv,reduceCtorEq,reduceAdd,reduceEqDiff,hl]
  |some m=>simp only [Fv,JB,KS,HH,vv,reduceCtorEq,reduceAdd,reduceEqDiff,D2,nv,isSome_none,isSome_some,getD_none,Option.getD_some]
 |some k=>cases oy with
  |none=>simp only [Fv,JB,KS,HH,vv,reduceCtorEq,reduceAdd,reduceEqDiff,D2,nv,isSome_none,isSome_some,getD_none,Option.getD_some]
  |some m=>
   simp only [Fv,JB,KS,HH,vv,reduceCtorEq,reduceAdd,reduceEqDiff,D2,nv,isSome_none,isSome_some,getD_none,Option.getD_some];by_cases h:m<k<;>simp only [h,vv,reduceCtorEq,reduceAdd,reduceEqDiff]
theorem q4_67_1 (n:Nat) (ag:(List AV×Heap)→Option (List Tree)) (t:Int) (v:Nat) (es:List Span) (ins:Bool) (a b:List Span) (i j:Nat) (xi yi:Bool) (hi:i≤a.length) (hl:a.length≤1000) :
  HJ n ag (([.t (tI t)],(HH 188 v es ins a b i xi j yi)):List AV×Heap)=HK n ag (([.t (tI t)],(HH 188 v es ins a b i xi j yi)):List AV×Heap) (([],(HH 188 v es ins a b (pi_ a i xi t) (pb a i xi t) j yi)):List AV×Heap):=by
 unfold pi_ pb nx;by_cases h:i=a.length
 ·subst h;have hx:a[a.length]? = none:=getElem?_eq_none (le_refl _);simp only [HJ,N6,N7,N8,HH,vv,reduceCtorEq,reduceAdd,reduceEqDiff,hx,beq_self_eq_true]
 ·obtain ⟨x,hx⟩:∃x,a[i]? = some x:=⟨a[i]'(by omega),getElem?_eq_getElem (by omega)⟩
  have h':¬((i:Int)=(a.length:Int)):=by omega
  cases xi
  ·by_cases hq:x.fro=t<;>simp only [HJ,N6,N7,N8,HH,vv,reduceCtorEq,reduceAdd,reduceEqDiff,hx,h',hq,beq_iff_eq,Span.enc,bne_iff_ne,ne_eq,not_true_eq_false,not_false_eq_true,Option.some.injEq]
  ·by_cases hq:x.to=t<;>simp only [HJ,N6,N7,N8,HH,vv,reduceCtorEq,reduceAdd,reduceEqDiff,hx,h',hq,beq_iff_eq,Span.enc,bne_iff_ne,ne_eq,not_true_eq_false,not_false_eq_true,Option.some.injEq,BL (show i<4611686018427387904 by omega),Int.natCast_add,nc1]
theorem q5_67_1 (n:Nat) (ag:(List AV×Heap)→Option (List Tree)) (t:Int) (Hp:Heap) (v:Nat) (es:List Span) (ins:Bool) (a b:List Span) (i j:Nat) (xi yi:Bool) (hj:j≤b.length) (hl:b.length≤1000) :
  HK n ag (([.t (tI t)],Hp):List AV×Heap) (([],(HH 188 v es ins a b i xi j yi)):List AV×Heap)=Fw n ag (([.t (tI t)],Hp):List AV×Heap) (([],(HH 188 v es ins a b i xi (pi_ b j yi t) (pb b j yi t))):List AV×Heap):=by
 unfold pi_ pb nx;by_cases h:j=b.length
 ·subst h;have hx:b[b.length]? = none:=getElem?_eq_none (le_refl _);simp only [HK,N3,N4,N5,HH,vv,reduceCtorEq,reduceAdd,reduceEqDiff,hx,beq_self_eq_true]
 ·obtain ⟨x,hx⟩:∃x,b[j]? = some x:=⟨b[j]'(by omega),getElem?_eq_getElem (by omega)⟩
  have h':¬((j:Int)=(b.length:Int)):=by omega
  cases yi
  ·by_cases hq:x.fro=t<;>simp only [HK,N3,N4,N5,HH,vv,reduceCtorEq,reduceAdd,reduceEqDiff,hx,h',hq,beq_iff_eq,Span.enc,bne_iff_ne,ne_eq,not_true_eq_false,not_false_eq_true,Option.some.injEq]
  ·by_cases hq:x.to=t<;>simp only [HK,N3,N4,N5,HH,vv,reduceCtorEq,reduceAdd,reduceEqDiff,hx,h',hq,beq_iff_eq,Span.enc,bne_iff_ne,ne_eq,not_true_eq_false,not_false_eq_true,Option.some.injEq,BL (show j<4611686018427387904 by omega),Int.natCast_add,nc1]
theorem q6_67_1 (n:Nat) (ag:(List AV×Heap)→Option (List Tree)) (t:Int) (Hp:Heap) (cl:List Span) (o:Option Int) (v:Nat) (a b:List Span) (i j:Nat) (xi yi:Bool) (hl:cl.length≤1000000)
  (hf:AB C n 188 [Tree.bool xi,Tree.bool yi]=some [Tree.bool (xi||yi)]) :
  Fw n ag (([.t (tI t)],Hp):List AV×Heap) (([],(HH 188 v (opn cl o) o.isSome a b i xi j yi)):List AV×Heap)=
   ag (([],(HH 188 (Ky v o (xi||yi)) (opn (ncl cl o t (xi||yi)) (nop o t (xi||yi))) (nop o t (xi||yi)).isSome a b i xi j yi)):List AV×Heap):=by
 have hm:∀l:List Span,take l.length (List.map Span.enc l)=List.map Span.enc l:=fun l=>by rw [take_of_length_le (by simp)]
 generalize hnow:(xi||yi)=now at *;cases o with
 |none=>
  cases now with
  |true=>simp only [Fw,JC,Lx,Ly,L0,HH,vv,reduceCtorEq,reduceAdd,reduceEqDiff,hf,opn,ncl,nop,Ky,isSome_none,isSome_some,Bool.not_false,append_nil,hm,map_append,map_cons,map_nil,Span.enc,(show cl.length+1≤1073741824 by omega),getD_none,length_append,le_refl]
  |false=>simp only [Fw,JC,Lx,Ly,L0,HH,vv,reduceCtorEq,reduceAdd,reduceEqDiff,hf,opn,ncl,nop,Ky,isSome_none,isSome_some,Bool.not_false,append_nil]
 |some s=>
  cases now with
  |true=>simp only [Fw,JC,Lx,Ly,L0,HH,vv,reduceCtorEq,reduceAdd,reduceEqDiff,hf,opn,ncl,nop,Ky,isSome_none,isSome_some,Bool.not_true,Option.getD_some]
  |false=>
   have e1:w64 (((cl.length+1:Nat):Int)-1)=(cl.length:Int):=by rw [AX (by omega) (by omega)];omega
   have e2:(List.map Span.enc cl++[[tI s,tI 0]])[cl.length]? = some [tI s,tI 0]:=by rw [getElem?_append_right (by simp)];simp
   have e3:(List.map Span.enc cl++[[tI s,tI 0]]).set cl.length [tI s,tI t]=List.map Span.enc cl++[[tI s,tI t]]:=Kg _ _ _ cl.length (by simp);simp only [Fw,JC,Lx,Ly,L0,HH,vv,reduceCtorEq,reduceAdd,reduceEqDiff,hf,opn,ncl,nop,Ky,isSome_none,isSome_some,Bool.not_true,append_nil,map_append,map_cons,map_nil,Span.enc,length_append,e1,e2,e3,take,drop,cons_append,nil_append,(show (cl.length:Int)<((cl.length+1:Nat):Int) by omega),le_refl]
theorem q1_67_2 (n:Nat) (ag:(List AV×Heap)→Option (List Tree)) (v:Nat) (es:List Span) (ins:Bool) (a b:List Span) (i j:Nat) (xi yi:Bool) (hi:i≤a.length) :
  HD n (([],(HH 188 v es ins b a j yi i xi)):List AV×Heap) ag=I4 n ag (([.t (tI (nv (nx a i xi))),.t (.bool (nx a i xi).isSome)],(HH 188 v es ins b a j yi i xi)):List AV×Heap):=by
 unfold nx nv;by_cases h:i=a.length
 ·subst h;have hx:a[a.length]? = none:=getElem?_eq_none (le_refl _);simp only [HD,HH,vv,reduceCtorEq,reduceAdd,reduceEqDiff,hx,beq_self_eq_true,isSome_none,getD_none]
 ·obtain ⟨x,hx⟩:∃x,a[i]? = some x:=⟨a[i]'(by omega),getElem?_eq_getElem (by omega)⟩
  have h':¬((i:Int)=(a.length:Int)):=by omega
  cases xi<;>simp only [HD,HH,vv,reduceCtorEq,reduceAdd,reduceEqDiff,hx,h',beq_iff_eq,Span.enc,isSome_some,Option.getD_some]
theorem q2_67_2 (n:Nat) (ag:(List AV×Heap)→Option (List Tree)) (m:Int) (fx:Bool) (v:Nat) (es:List Span) (ins:Bool) (a b:List Span) (i j:Nat) (xi yi:Bool) (hj:j≤b.length) :
  I4 n ag (([.t (tI m),.t (.bool fx)],(HH 188 v es ins b a j yi i xi)):List AV×Heap)=Ft n ag (([.t (tI m),.t (.bool fx)],(HH 188 v es ins b a j yi i xi)):List AV×Heap) (([.t (tI (nv (nx b j yi))),.t (.bool (nx b j yi).isSome)],(HH 188 v es ins b a j yi i xi)):List AV×Heap):=by
 unfold nx nv;by_cases h:j=b.length
 ·subst h;have hx:b[b.length]? = none:=getElem?_eq_none (le_refl _);simp only [I4,HH,vv,reduceCtorEq,reduceAdd,reduceEqDiff,hx,beq_self_eq_true,isSome_none,getD_none]
 ·obtain ⟨x,hx⟩:∃x,b[j]? = some x:=⟨b[j]'(by omega),getElem?_eq_getElem (by omega)⟩
  have h':¬((j:Int)=(b.length:Int)):=by omega
  cases yi<;>simp only [I4,HH,vv,reduceCtorEq,reduceAdd,reduceEqDiff,hx,h',beq_iff_eq,Span.enc,isSome_some,Option.getD_some]
theorem q3_67_2 (n:Nat) (ag:(List AV×Heap)→Option (List Tree)) (ox oy:Option Int) (v:Nat) (es:List Span) (ins:Bool) (a b:List Span) (i j:Nat) (xi yi:Bool) :
  Ft n ag (([.t (tI (nv ox)),.t (.bool ox.isSome)],(HH 188 v es ins b a j yi i xi)):List AV×Heap) (([.t (tI (nv oy)),.t (.bool oy.isSome)],(HH 188 v es ins b a j yi i xi)):List AV×Heap)=match D2 ox oy with
   |none=>some (fin es)
   |some t=>HG n ag (([.t (tI t)],(HH 188 v es ins b a j yi i xi)):List AV×Heap):=by
 have hl:∀l:List Span,take l.length (List.map Span.enc l)=List.map Span.enc l:=fun l=>by rw [take_of_length_le (by simp)]
 cases ox with
 |none=>cases oy with
  |none=>
   simp only [Ft,I5,HH,vv,reduceCtorEq,reduceAdd,reduceEqDiff,D2,nv,isSome_none,getD_none,fin];by_cases h:1000<es.length
   ·simp only [h,(show (1000:Int)<(es.length:Int) by omega),vv,reduceCtorEq,reduceAdd,reduceEqDiff]
   ·simp only [h,(show ¬(1000:Int)<(es.length:Int) by omega),vv,reduceCtorEq,reduceAdd,reduceEqDiff,hl]
  |some m=>simp only [Ft,I5,KL,HH,vv,reduceCtorEq,reduceAdd,reduceEqDiff,D2,nv,isSome_none,isSome_some,getD_none,Option.getD_some]
 |some k=>cases oy with
  |none=>simp only [Ft,I5,KL,HH,vv,reduceCtorEq,reduceAdd,reduceEqDiff,D2,nv,isSome_none,isSome_some,getD_none,Option.getD_some]
  |some m=>
   simp only [Ft,I5,KL,HH,vv,reduceCtorEq,reduceAdd,reduceEqDiff,D2,nv,isSome_none,isSome_some,getD_none,Option.getD_some];by_cases h:m<k<;>simp only [h,vv,reduceCtorEq,reduceAdd,reduceEqDiff]
theorem q4_67_2 (n:Nat) (ag:(List AV×Heap)→Option (List Tree)) (t:Int) (v:Nat) (es:List Span) (ins:Bool) (a b:List Span) (i j:Nat) (xi yi:Bool) (hi:i≤a.length) (hl:a.length≤1000) :
  HG n ag (([.t (tI t)],(HH 188 v es ins b a j yi i xi)):List AV×Heap)=HI n ag (([.t (tI t)],(HH 188 v es ins b a j yi i xi)):List AV×Heap) (([],(HH 188 v es ins b a j yi (pi_ a i xi t) (pb a i xi t))):List AV×Heap):=by
 unfold pi_ pb nx;by_cases h:i=a.length
 ·subst h;have hx:a[a.length]? = none:=getElem?_eq_none (le_refl _);simp only [HG,KP,KQ,KR,HH,vv,reduceCtorEq,reduceAdd,reduceEqDiff,hx,beq_self_eq_true]
 ·obtain ⟨x,hx⟩:∃x,a[i]? = some x:=⟨a[i]'(by omega),getElem?_eq_getElem (by omega)⟩
  have h':¬((i:Int)=(a.length:Int)):=by omega
  cases xi
  ·by_cases hq:x.fro=t<;>simp only [HG,KP,KQ,KR,HH,vv,reduceCtorEq,reduceAdd,reduceEqDiff,hx,h',hq,beq_iff_eq,Span.enc,bne_iff_ne,ne_eq,not_true_eq_false,not_false_eq_true,Option.some.injEq]
  ·by_cases hq:x.to=t<;>simp only [HG,KP,KQ,KR,HH,vv,reduceCtorEq,reduceAdd,reduceEqDiff,hx,h',hq,beq_iff_eq,Span.enc,bne_iff_ne,ne_eq,not_true_eq_false,not_false_eq_true,Option.some.injEq,BL (show i<4611686018427387904 by omega),Int.natCast_add,nc1]
theorem q5_67_2 (n:Nat) (ag:(List AV×Heap)→Option (List Tree)) (t:Int) (Hp:Heap) (v:Nat) (es:List Span) (ins:Bool) (a b:List Span) (i j:Nat) (xi yi:Bool) (hj:j≤b.length) (hl:b.length≤1000) :
  HI n ag (([.t (tI t)],Hp):List AV×Heap) (([],(HH 188 v es ins b a j yi i xi)):List AV×Heap)=Fu n ag (([.t (tI t)],Hp):List AV×Heap) (([],(HH 188 v es ins b a (pi_ b j yi t) (pb b j yi t) i xi)):List AV×Heap):=by
 unfold pi_ pb nx;by_cases h:j=b.length
 ·subst h;have hx:b[b.length]? = none:=getElem?_eq_none (le_refl _);simp only [HI,KM,KN,KO,HH,vv,reduceCtorEq,reduceAdd,reduceEqDiff,hx,beq_self_eq_true]
 ·obtain ⟨x,hx⟩:∃x,b[j]? = some x:=⟨b[j]'(by omega),getElem?_eq_getElem (by omega)⟩
  have h':¬((j:Int)=(b.length:Int)):=by omega
  cases yi
  ·by_cases hq:x.fro=t<;>simp only [HI,KM,KN,KO,HH,vv,reduceCtorEq,reduceAdd,reduceEqDiff,hx,h',hq,beq_iff_eq,Span.enc,bne_iff_ne,ne_eq,not_true_eq_false,not_false_eq_true,Option.some.injEq]
  ·by_cases hq:x.to=t<;>simp only [HI,KM,KN,KO,HH,vv,reduceCtorEq,reduceAdd,reduceEqDiff,hx,h',hq,beq_iff_eq,Span.enc,bne_iff_ne,ne_eq,not_true_eq_false,not_false_eq_true,Option.some.injEq,BL (show j<4611686018427387904 by omega),Int.natCast_add,nc1]
theorem q6_67_2 (n:Nat) (ag:(List AV×Heap)→Option (List Tree)) (t:Int) (Hp:Heap) (cl:List Span) (o:Option Int) (v:Nat) (a b:List Span) (i j:Nat) (xi yi:Bool) (hl:cl.length≤1000000)
  (hf:AB C n 188 [Tree.bool xi,Tree.bool yi]=some [Tree.bool (xi||yi)]) :
  Fu n ag (([.t (tI t)],Hp):List AV×Heap) (([],(HH 188 v (opn cl o) o.isSome b a j yi i xi)):List AV×Heap)=
   ag (([],(HH 188 (Ky v o (xi||yi)) (opn (ncl cl o t (xi||yi)) (nop o t (xi||yi))) (nop o t (xi||yi)).isSome b a j yi i xi)):List AV×Heap):=by
 have hm:∀l:List Span,take l.length (List.map Span.enc l)=List.map Span.enc l:=fun l=>by rw [take_of_length_le (by simp)]
 generalize hnow:(xi||yi)=now at *;cases o with
 |none=>
  cases now with
  |true=>simp only [Fu,I6,I7,I8,I9,HH,vv,reduceCtorEq,reduceAdd,reduceEqDiff,hf,opn,ncl,nop,Ky,isSome_none,isSome_some,Bool.not_false,append_nil,hm,map_append,map_cons,map_nil,Span.enc,(show cl.length+1≤1073741824 by omega),getD_none,length_append,le_refl]
  |false=>simp only [Fu,I6,I7,I8,I9,HH,vv,reduceCtorEq,reduceAdd,reduceEqDiff,hf,opn,ncl,nop,Ky,isSome_none,isSome_some,Bool.not_false,append_nil]
 |some s=>
  cases now with
  |true=>simp only [Fu,I6,I7,I8,I9,HH,vv,reduceCtorEq,reduceAdd,reduceEqDiff,hf,opn,ncl,nop,Ky,isSome_none,isSome_some,Bool.not_true,Option.getD_some]
  |false=>
   have e1:w64 (((cl.length+1:Nat):Int)-1)=(cl.length:Int):=by rw [AX (by omega) (by omega)];omega
   have e2:(List.map Span.enc cl++[[tI s,tI 0]])[cl.length]? = some [tI s,tI 0]:=by rw [getElem?_append_right (by simp)];simp
   have e3:(List.map Span.enc cl++[[tI s,tI 0]]).set cl.length [tI s,tI t]=List.map Span.enc cl++[[tI s,tI t]]:=Kg _ _ _ cl.length (by simp);simp only [Fu,I6,I7,I8,I9,HH,vv,reduceCtorEq,reduceAdd,reduceEqDiff,hf,opn,ncl,nop,Ky,isSome_none,isSome_some,Bool.not_true,append_nil,map_append,map_cons,map_nil,Span.enc,length_append,e1,e2,e3,take,drop,cons_append,nil_append,(show (cl.length:Int)<((cl.length+1:Nat):Int) by omega),le_refl]
end Ab
namespace Ab
open Go
theorem NG (a:List Span) (i:Nat) (xi:Bool):(⟨a.drop i,xi⟩:Sd).next=nx a i xi:=by
 unfold Sd.next nx;have:(a.drop i)[0]? = a[i]? :=by rw [getElem?_drop];simp
 cases h:a.drop i with
 |nil=>
  rw [h] at this;have hx:a[i]? = none:=this.symm;rw [hx]
 |cons x l=>
  rw [h] at this;have hx:a[i]? = some x:=this.symm;rw [hx]
theorem RD (a:List Span) (i:Nat) (xi:Bool) (t:Int):(⟨a.drop i,xi⟩:Sd).pass t=⟨a.drop (pi_ a i xi t),pb a i xi t⟩:=by
 unfold Sd.pass pi_ pb;rw [NG];by_cases h:nx a i xi=some t
 ·cases xi<;>simp [h,drop_drop]
 ·simp [h]
theorem nx_lt {a:List Span} {i:Nat} {xi:Bool} {t:Int} (h:nx a i xi=some t):i<a.length:=by
 unfold nx at h;split at h
 ·cases h
 ·rename_i x hx;exact AY hx
theorem RN {a:List Span} {i:Nat} {xi:Bool} (h:nx a i xi=none):a.length≤i:=by
 unfold nx at h;split at h
 ·rename_i hx;exact List.getElem?_eq_none_iff.1 hx
 ·cases h
theorem pi_le {a:List Span} {i:Nat} {xi:Bool} {t:Int} (hi:i≤a.length) (he:i=a.length→xi=false):pi_ a i xi t≤a.length∧(pi_ a i xi t=a.length→pb a i xi t=false):=by
 unfold pi_ pb;by_cases h:nx a i xi=some t
 ·have:=nx_lt h;cases xi
  ·simp [h];omega
  ·simp [h];omega
 ·simp [h];exact ⟨hi,he⟩
theorem KY (f:Bool→Bool→Bool) (hff:f false false=false) (a b:List Span) (Hs:Nat→List Span→Bool→Nat→Bool→Nat→Bool→Heap) (body:(List AV×Heap)→((List AV×Heap)→Option (List Tree))→Option (List Tree))
  (hstep:∀ag v cl o i xi j yi,i≤a.length→j≤b.length→cl.length≤1000000→body (([],Hs v (opn cl o) o.isSome i xi j yi):List AV×Heap) ag=match D2 (nx a i xi) (nx b j yi) with
   |none=>some (fin (opn cl o))
   |some t=>ag (([],Hs (Ky v o (f (pb a i xi t) (pb b j yi t))) (opn (ncl cl o t (f (pb a i xi t) (pb b j yi t))) (nop o t (f (pb a i xi t) (pb b j yi t)))) (nop o t (f (pb a i xi t) (pb b j yi t))).isSome (pi_ a i xi t) (pb a i xi t) (pi_ b j yi t) (pb b j yi t)):List AV×Heap)) :
  ∀k v cl o i xi j yi,i≤a.length→j≤b.length→(i=a.length→xi=false)→(j=b.length→yi=false)→o.isSome=f xi yi→cl.length+(Sd.sz ⟨a.drop i,xi⟩+Sd.sz ⟨b.drop j,yi⟩)≤1000000→Sd.sz ⟨a.drop i,xi⟩+Sd.sz ⟨b.drop j,yi⟩<k→
   AH body k (([],Hs v (opn cl o) o.isSome i xi j yi):List AV×Heap)=some (fin (cl++go f ⟨a.drop i,xi⟩ ⟨b.drop j,yi⟩ o)):=by
 intro k
 induction k with
 |zero=>intro v cl o i xi j yi h1 h2 h3 h4 h5 h6 h7;omega
 |succ k ih=>
  intro v cl o i xi j yi h1 h2 h3 h4 h5 h6 h7;show body _ (AH body k)=_;rw [hstep _ v cl o i xi j yi h1 h2 (by omega)];have e1:=NG a i xi;have e2:=NG b j yi;cases h:D2 (nx a i xi) (nx b j yi) with
  |none=>
   obtain ⟨g1,g2⟩:=MJ h;have:=RN g1;have:=RN g2;rw [h3 (by omega),h4 (by omega),hff] at h5;obtain rfl:o=none:=by cases o<;>simp at h5 ⊢
   rw [RW (by rw [e1,e2];exact h)];simp [opn]
  |some t=>
   have h':D2 (Sd.next ⟨a.drop i,xi⟩) (Sd.next ⟨b.drop j,yi⟩)=some t:=by rw [e1,e2];exact h
   have p1:=RD a i xi t;have p2:=RD b j yi t;obtain ⟨m1,_,_⟩:=Gr h';have z1:=Sd.Gv ⟨a.drop i,xi⟩ t;have z2:=Sd.Gv ⟨b.drop j,yi⟩ t;rw [p1] at z1;rw [p2] at z2;have hsz:Sd.sz ⟨a.drop (pi_ a i xi t),pb a i xi t⟩+Sd.sz ⟨b.drop (pi_ b j yi t),pb b j yi t⟩<Sd.sz ⟨a.drop i,xi⟩+Sd.sz ⟨b.drop j,yi⟩:=by
    rcases m1 with m|m
    ·have:=z1.2 m;omega
    ·have:=z2.2 m;omega
   have hcl:(ncl cl o t (f (pb a i xi t) (pb b j yi t))).length≤cl.length+1:=by unfold ncl;split<;>simp
   have hno:(nop o t (f (pb a i xi t) (pb b j yi t))).isSome=f (pb a i xi t) (pb b j yi t):=by unfold nop;split<;>simp_all
   simp only;obtain ⟨b1,b2⟩:=pi_le (t:=t) h1 h3;obtain ⟨b3,b4⟩:=pi_le (t:=t) h2 h4;rw [ih _ _ _ _ _ _ _ b1 b3 b2 b4 hno (by omega) (by omega)];rw [RV h',p1,p2];simp only;congr 2;cases hnow:f (pb a i xi t) (pb b j yi t) with
   |true=>cases o<;>simp [ncl,nop]
   |false=>cases o<;>simp [ncl,nop]
theorem sw_67_1 (n:Nat) (a b:List Span) (ha:a.length≤1000) (hb:b.length≤1000) (hf:∀xi yi,AB C n 188 [Tree.bool xi,Tree.bool yi]=some [Tree.bool (xi||yi)]) (hn:5000≤n) :
  AH (fun (p:List AV×Heap) again=>HE n p again) n (([],HH 188 0 [] false a b 0 false 0 false):List AV×Heap)=some (fin (go (fun xi yi=>xi||yi) ⟨a,false⟩ ⟨b,false⟩ none)):=by
 have:=KY (fun xi yi=>xi||yi) rfl a b (fun v es ins i xi j yi=>HH 188 v es ins a b i xi j yi) (fun (p:List AV×Heap) again=>HE n p again) (fun ag v cl o i xi j yi hi hj hc=>by
  rw [q1_67_1 n ag v (opn cl o) o.isSome a b i j xi yi hi,q2_67_1 n ag _ _ v (opn cl o) o.isSome a b i j xi yi hj,q3_67_1 n ag (nx a i xi) (nx b j yi) v (opn cl o) o.isSome a b i j xi yi];cases htm:D2 (nx a i xi) (nx b j yi) with
  |none=>rfl
  |some t=>
   simp only;rw [q4_67_1 n ag t v (opn cl o) o.isSome a b i j xi yi hi ha,q5_67_1 n ag t _ v (opn cl o) o.isSome a b _ j _ yi hj hb,q6_67_1 n ag t _ cl o v a b _ _ _ _ hc (hf _ _)]) n 0 [] none 0 false 0 false (zero_le _) (zero_le _) (fun _=>rfl) (fun _=>rfl) rfl (by simp only [Sd.sz,drop_zero,length_nil,false_eq_true,if_false];omega) (by simp only [Sd.sz,drop_zero,false_eq_true,if_false];omega)
 simpa [opn] using this
theorem sw_67_2 (n:Nat) (a b:List Span) (ha:a.length≤1000) (hb:b.length≤1000) (hf:∀xi yi,AB C n 188 [Tree.bool xi,Tree.bool yi]=some [Tree.bool (xi||yi)]) (hn:5000≤n) :
  AH (fun (p:List AV×Heap) again=>HD n p again) n (([],HH 188 0 [] false b a 0 false 0 false):List AV×Heap)=some (fin (go (fun xi yi=>xi||yi) ⟨a,false⟩ ⟨b,false⟩ none)):=by
 have:=KY (fun xi yi=>xi||yi) rfl a b (fun v es ins i xi j yi=>HH 188 v es ins b a j yi i xi) (fun (p:List AV×Heap) again=>HD n p again) (fun ag v cl o i xi j yi hi hj hc=>by
  rw [q1_67_2 n ag v (opn cl o) o.isSome a b i j xi yi hi,q2_67_2 n ag _ _ v (opn cl o) o.isSome a b i j xi yi hj,q3_67_2 n ag (nx a i xi) (nx b j yi) v (opn cl o) o.isSome a b i j xi yi];cases htm:D2 (nx a i xi) (nx b j yi) with
  |none=>rfl
  |some t=>
   simp only;rw [q4_67_2 n ag t v (opn cl o) o.isSome a b i j xi yi hi ha,q5_67_2 n ag t _ v (opn cl o) o.isSome a b _ j _ yi hj hb,q6_67_2 n ag t _ cl o v a b _ _ _ _ hc (hf _ _)]) n 0 [] none 0 false 0 false (zero_le _) (zero_le _) (fun _=>rfl) (fun _=>rfl) rfl (by simp only [Sd.sz,drop_zero,length_nil,false_eq_true,if_false];omega) (by simp only [Sd.sz,drop_zero,false_eq_true,if_false];omega)
 simpa [opn] using this
theorem s188 (p q:Bool):AL C 188 [.bool p,.bool q] [.bool (p||q)]:=AL.of (fun n=>e188 n _ _) (Ev.of fun n=>by cases p<;>simp [AD])
theorem Ss {P:Nat→Bool→Bool→Prop} (h:∀p q,Ev fun n=>P n p q):Ev fun n=>∀p q,P n p q:=
 ((h false false).and ((h false true).and ((h true false).and (h true true)))).mono fun n x p q=>by
  cases p<;>cases q
  ·exact x.1
  ·exact x.2.1
  ·exact x.2.2.1
  ·exact x.2.2.2
def NB (a b:List Span):List Tree:=if D5 a=0∧D5 b=0 then fin (uni a b) else [.sl 2 [],tI 1]
theorem s145 (a b:List Span):AL C 145 [.sl 2 (a.map Span.enc),.sl 2 (b.map Span.enc)] (NB a b):=by
 refine AL.of (fun n=>e145 n _ _) ?_;refine ((s80 a).and ((s80 b).and ((Ss s188).and (Ev.ge 5000)))).mono fun n h => ?_;obtain ⟨h1,h2,h3,h4⟩:=h;simp only [h1,h2,vv,reduceCtorEq,reduceAdd,reduceEqDiff,NB];by_cases ha:D5 a=0
 ·by_cases hb:D5 b=0
  ·have k1:=sw_67_1 n a b (Cg ha) (Cg hb) h3 h4;have k2:=sw_67_2 n a b (Cg ha) (Cg hb) h3 h4;simp only [HH,map_nil,length_nil] at k1 k2;simp only [ha,hb,bne_self_eq_false,KK,vv,reduceCtorEq,reduceAdd,reduceEqDiff];simp only [Int.natCast_zero] at k1 k2;rw [k1,k2,My];rfl
  ·simp [ha,hb,AD,KK,TF,Au,Bu]
 ·simp [ha,AD,KK,TF,Au,Bu]
end Ab
namespace Ab
open Go
end Ab
namespace Ab
open Go
def Dm (a b:Int):Int:=if (a / 16+1)*16<b then (a / 16+1)*16 else b
theorem E0 {a b:Int} (h:a<b):a<Dm a b∧Dm a b≤b:=by unfold Dm;split<;>omega
def cut (a b:Int):List (Int×Int):=if h:a<b then (a,Dm a b)::cut (Dm a b) b else []
termination_by (b-a).toNat
decreasing_by have:=E0 h;omega
theorem EP {a b:Int} (h:a<b):cut a b=(a,Dm a b)::cut (Dm a b) b:=by rw [cut,dif_pos h]
theorem Ez {a b:Int} (h:¬a<b):cut a b=[]:=by rw [cut,dif_neg h]
def raw (d:ByteArray) (ses:Int) (p:Int×Int):Seg:=⟨1,ses,0,p.1,d.size,false,d.extract p.1.toNat p.2.toNat,[]⟩
def R7 (d:ByteArray) (ses:Int) (l:List Span):List Seg:=l.flatMap fun x=>(cut x.fro x.to).map (raw d ses)
def Cz (ser:Int) (l:List Seg):List Seg:=match l.getLast? with
 |some x=>l.dropLast++[{x with ser:=ser,chk:=true}]
 |none=>[]
structure MS where
 v:Nat
 at_:Int
 out:List Seg
structure NS where
 v:Nat
 out:List Seg
def Ib (d:ByteArray) (ses b:Int) (s:MS):NS:=⟨s.v+(cut s.at_ b).length,s.out++(cut s.at_ b).map (raw d ses)⟩
def MW (d:ByteArray) (ses b:Int) (s:MS):Rd MS NS:=if s.at_<b then .next ⟨s.v+1,Dm s.at_ b,s.out++[raw d ses (s.at_,Dm s.at_ b)]⟩ else .done ⟨s.v,s.out⟩
def Uy (b:Int) (K:Int) (s:MS):Prop:=0≤s.at_∧s.at_≤b∧(s.out.length:Int)≤K+s.at_
theorem SH {d:ByteArray} {ses b K:Int} {s s':MS} (h:Uy b K s) (he:MW d ses b s = .next s'):Uy b K s'∧(b-s'.at_).toNat<(b-s.at_).toNat:=by
 unfold MW at he;split at he
 ·rename_i hq;cases he;have:=E0 hq;unfold Uy at h ⊢;simp only [length_append,length_cons,length_nil];omega
 ·cases he
theorem SI {d:ByteArray} {ses b:Int} (s:MS):Ib d ses b s=(MW d ses b s).fin (Ib d ses b):=by
 unfold MW;split
 ·rename_i hq;simp only [Rd.fin,Ib,EP hq,length_cons,map_cons,append_assoc,cons_append,nil_append];congr 1;omega
 ·rename_i hq;simp [Rd.fin,Ib,Ez hq]
theorem SV (l:List Seg):take l.length (List.map Seg.enc l)=List.map Seg.enc l:=by rw [take_of_length_le (by simp)]
theorem inner8 (d:ByteArray) (ses:Int) (x:Span) (i:Nat) (v:Nat) (out:List Seg) (K:Int) (hx:0≤x.fro∧x.fro<x.to∧x.to≤d.size) (hd:d.size≤65536) (ho:(out.length:Int)≤K+x.fro) (hK:K≤65536000) (hi:i≤1000) (y11:List Tree) (hy:y11=x.enc) (H0:Heap) :
  Ev fun n=>∀z:(List AV×Heap)→Option (List Tree),AH (fun (p12:List AV×Heap) again=>Uz n y11 d ses z (([.t (tI i)],H0):List AV×Heap) p12 again) n (([.t (tI x.fro)],[.row false v 8 (out.map Seg.enc),.box [.sref 0 v 0 out.length],.box [],.box []]):List AV×Heap)=
   z (([.t (tI ((i+1:Nat):Int))],[.row false (Ib d ses x.to ⟨v,x.fro,out⟩).v 8 ((Ib d ses x.to ⟨v,x.fro,out⟩).out.map Seg.enc),.box [.sref 0 (Ib d ses x.to ⟨v,x.fro,out⟩).v 0 (Ib d ses x.to ⟨v,x.fro,out⟩).out.length],.box []]):List AV×Heap):=by
 subst hy;refine Jo (R:=List Tree) (Z:=(List AV×Heap)→Option (List Tree)) (B:=fun n z p again=>Uz n x.enc d ses z (([.t (tI i)],H0):List AV×Heap) p again)
  (fun z (u:NS)=>z (([.t (tI ((i+1:Nat):Int))],[.row false u.v 8 (u.out.map Seg.enc),.box [.sref 0 u.v 0 u.out.length],.box []]):List AV×Heap))
  (fun (s:MS)=>(([.t (tI s.at_)],[.row false s.v 8 (s.out.map Seg.enc),.box [.sref 0 s.v 0 s.out.length],.box [],.box []]):List AV×Heap)) (MW d ses x.to) (Uy x.to K) (fun s=>(x.to-s.at_).toNat) (Ib d ses x.to) ⟨v,x.fro,out⟩ rfl ⟨hx.1,by simp only;omega,ho⟩ rfl (fun s hI=>Ev.of fun n z again => ?_) (fun s s' hI he=>SH hI he) (fun s _=>SI s)
 unfold Uy at hI;have e0:w64 (w64 (w64 (tdiv s.at_ 16)+1)*16)=(s.at_ / 16+1)*16:=by rw [tdiv_nn hI.1,AX (x:=s.at_ / 16) (by omega) (by omega),AX (x:=s.at_ / 16+1) (by omega) (by omega),AX (by omega) (by omega)]
 unfold MW;by_cases hq:s.at_<x.to
 ·have hc:=E0 hq;have e1:(if (s.at_ / 16+1)*16<x.to then (s.at_ / 16+1)*16 else x.to)=Dm s.at_ x.to:=rfl;rw [if_pos hq];simp only [Uz,vv,reduceCtorEq,reduceAdd,reduceEqDiff,Span.enc,hq,e0,e1,SV,(show 0≤Dm s.at_ x.to by omega),(show Dm s.at_ x.to≤(d.size:Int) by omega),hI.1,(show s.at_≤((Dm s.at_ x.to).toNat:Int) by omega),le_refl,(show s.out.length+1≤1073741824 by omega),Rd.As,map_append,map_cons,map_nil,raw,Seg.enc,length_append]
 ·rw [if_neg hq];simp only [Uz,vv,reduceCtorEq,reduceAdd,reduceEqDiff,Span.enc,hq,Rd.BX,BL (show i<4611686018427387904 by omega)]
end Ab
namespace Ab
open Go
def Cv (a b:List Span):List Span:=if D5 a=0∧D5 b=0 then (if 1000<(uni a b).length then [] else uni a b) else []
def EV (a b:List Span):Int:=if D5 a=0∧D5 b=0 then (if 1000<(uni a b).length then 4 else 0) else 1
theorem Rw (a b:List Span):NB a b=[.sl 2 ((Cv a b).map Span.enc),tI (EV a b)]:=by
 unfold NB Cv EV fin;split
 ·split<;>rfl
 ·rfl
def Pn (d:ByteArray):List Span:=[⟨0,d.size⟩]
theorem Np {l:List Span} {b:Int} (h:Canon b l) (hl:l≠[]):∀x∈l,D0 l≤x.fro∧x.to≤ED l:=by
 induction l generalizing b with
 |nil=>exact (hl rfl).elim
 |cons y l ih=>
  intro x hx;cases l with
  |nil=>
   simp only [mem_singleton] at hx;subst hx;exact ⟨Int.le_refl _,Int.le_refl _⟩
  |cons z l=>
   have e:ED (y::z::l)=ED (z::l):=by unfold ED;rw [List.getLast?_cons_cons]
   rw [e];have k:=ih h.2.2 (by simp);have hz:D0 (z::l)=z.fro:=rfl;have hy:D0 (y::z::l)=y.fro:=rfl;have h1:=h.2.1;have h2:=h.2.2.1;rw [hy];rcases mem_cons.1 hx with rfl|hx
   ·have:=k z (by simp);have:=h.2.2.2.1;omega
   ·have:=k x hx;omega
theorem head_mem {l:List Span} (hl:l≠[]):∃x∈l,D0 l=x.fro:=⟨l.head hl,List.head_mem hl,(Na hl).2⟩
theorem T5 {l:List Span} (hl:l≠[]):∃x∈l,ED l=x.to:=⟨l.getLast hl,List.getLast_mem hl,(NW hl).2⟩
def FI (l:List Span) (n:Int):Prop:=∀x∈l,0≤x.fro∧x.to≤n
instance (l:List Span) (n:Int):Decidable (FI l n):=by unfold FI;exact inferInstance
theorem Ee {l:List Span} {n:Int} (h:D5 l=0):(l=[]∨0≤D0 l∧ED l≤n)↔FI l n:=by
 have hc:=((BM l).1 h).2.1;by_cases hl:l=[]
 ·subst hl;simp [FI]
 ·constructor
  ·rintro (h|h)
   ·exact (hl h).elim
   ·intro x hx;have:=Np hc hl x hx;omega
  ·intro hw;obtain ⟨x,hx,e1⟩:=head_mem hl;obtain ⟨y,hy,e2⟩:=T5 hl;have:=hw x hx;have:=hw y hy;omega
theorem Pm {l:List Span} {n t:Int} (h:FI l n) (m:B5 t l):0≤t∧t<n:=by
 induction l with
 |nil=>exact m.elim
 |cons x l ih=>
  rcases m with m|m
  ·have:=h x (by simp);omega
  ·exact ih (fun y hy=>h y (by simp [hy])) m
theorem K3 {l:List Span} {b n:Int} (h:Canon b l) (hm:∀t,B5 t l→0≤t∧t<n):FI l n:=by
 induction l generalizing b with
 |nil=>intro x hx;cases hx
 |cons x l ih=>
  intro y hy;rcases mem_cons.1 hy with rfl|hy
  ·have:=h.2.1;have:=hm y.fro (.inl ⟨by omega,by omega⟩);have:=hm (y.to-1) (.inl ⟨by omega,by omega⟩);omega
  ·exact ih h.2.2 (fun t m=>hm t (.inr m)) y hy
theorem Sg {d:ByteArray} (h:1≤d.size∧d.size≤65536):D5 (Pn d)=0:=by rw [BM];refine ⟨by simp [Pn],⟨by simp only;omega,by simp only;omega,trivial⟩,fun x hx => ?_⟩;simp only [Pn,mem_singleton] at hx;subst hx;simp only;omega
theorem Sj {l:List Span}:∀{b n:Int},Canon b l→b<n→(∀x∈l,x.to≤n)→(l.length:Int)≤n-b:=by
 induction l with
 |nil=>intro b n _ h _;simp;omega
 |cons x l ih=>
  intro b n h hb ht;have h1:=h.1;have h2:=h.2.1;by_cases he:x.to<n
  ·have:=ih h.2.2 he (fun y hy=>ht y (by simp [hy]));simp only [length_cons];omega
  ·cases l with
   |nil=>simp;omega
   |cons y l=>
    have:=h.2.2.1;have:=h.2.2.2.1;have:=ht y (by simp);omega
end Ab
namespace Ab
open Go
theorem Nn:∀(k:Nat) (a b:Int),(b-a).toNat≤k→((cut a b).length:Int)≤if a<b then b-a else 0
 |k,a,b,h=>by
  by_cases hq:a<b
  ·rw [EP hq,if_pos hq];have hc:=E0 hq;cases k with
   |zero=>omega
   |succ k=>
    have:=Nn k (Dm a b) b (by omega);simp only [length_cons];split at this<;>omega
  ·rw [Ez hq,if_neg hq];simp
theorem Tw (d:ByteArray) (ses b:Int) (s:MS) (h:s.at_≤b):((Ib d ses b s).out.length:Int)≤s.out.length+(b-s.at_):=by have:=Nn _ s.at_ b (le_refl _);simp only [Ib,length_append,length_map];split at this<;>omega
def Ur (l:List Span) (n:Int):Prop:=∀x∈l,0≤x.fro∧x.fro<x.to∧x.to≤n
def OV (d:ByteArray) (ses:Int) (_:Nat) (s:NS) (x:Span):Rd NS (List Seg):=.next (Ib d ses x.to ⟨s.v,x.fro,s.out⟩)
theorem o_run (d:ByteArray) (ses ser:Int):∀(l:List Span) (i:Nat) (s:NS),B9 (OV d ses) (fun s=>Cz ser s.out) i l s=Cz ser (s.out++R7 d ses l)
 |[],i,s=>by simp [B9,R7]
 |x::l,i,s=>by simp only [B9,OV];rw [o_run d ses ser l];simp [Ib,R7]
def OInv (i:Nat) (s:NS):Prop:=(s.out.length:Int)≤65536*i∧(i≠0→s.out≠[])
theorem SE {d:ByteArray} {ses:Int} {x:Span} {i:Nat} {s s':NS} (hd:d.size≤65536) (hx:0≤x.fro∧x.fro<x.to∧x.to≤d.size) (h:OInv i s) (he:OV d ses i s x = .next s'):OInv (i+1) s':=by cases he;have:=Tw d ses x.to ⟨s.v,x.fro,s.out⟩ (by simp only;omega);simp only at this;refine ⟨by have:=h.1;omega,fun _ => ?_⟩;simp [Ib,EP hx.2.1]
theorem T6 (pre:List Seg) (x:Seg):List.map Seg.enc (pre++[x])=List.map Seg.enc pre++[x.enc]:=by simp
theorem QQ (l:List (List Tree)) (y:List Tree) (k:Nat) (h:k=l.length):(l++[y])[k]? = some y:=by subst h;rw [getElem?_append_right (le_refl _)];simp
theorem TI (l:List (List Tree)) (y:List Tree) (k:Nat) (h:k=l.length+1):take k (l++[y])=l++[y]:=by subst h;rw [take_of_length_le (by simp)]
theorem Jx (ser:Int) (pre:List Seg) (x:Seg):Cz ser (pre++[x])=pre++[{x with ser:=ser,chk:=true}]:=by unfold Cz;simp
theorem outer8 (d:ByteArray) (ses ser:Int) (l:List Span) (hl:l≠[]) (hl2:l.length≤1000) (hd:d.size≤65536) (hs:Ur l d.size) :
  Ev fun n=>AH (fun (p9:List AV×Heap) again=>L8_2 n (l.map Span.enc) d ses ser p9 again) n (([.t (tI 0)],[.row false 0 8 [],.box [.sref 0 0 0 0],.box []]):List AV×Heap)=some [.sl 8 ((Cz ser (R7 d ses l)).map Seg.enc),tI 0]:=by
 refine Ao (R:=List Tree) (fun (q:List Seg)=>[Tree.sl 8 (q.map Seg.enc),tI 0]) l (fun i (s:NS)=>(([.t (tI i)],[.row false s.v 8 (s.out.map Seg.enc),.box [.sref 0 s.v 0 s.out.length],.box []]):List AV×Heap)) (OV d ses) (fun s=>Cz ser s.out) OInv ⟨0,[]⟩ rfl ⟨by simp,fun h=>(h rfl).elim⟩ (by rw [o_run];rfl)
  (fun i s x hx hI => ?_) (fun i s x s' hx hI he=>SE hd (hs x (mem_of_getElem? hx)) hI he) (fun s hI=>Ev.of fun n again => ?_)
 ·have hi:=AY hx;have hb:=hs x (mem_of_getElem? hx);have key:=inner8 d ses x i s.v s.out ((s.out.length:Int)-x.fro) hb hd (by omega) (by have:=hI.1;omega) (by omega) x.enc rfl [.row false s.v 8 (s.out.map Seg.enc),.box [.sref 0 s.v 0 s.out.length],.box []];refine key.mono fun n h again => ?_;have h':=h again;simp only [Span.enc] at h';simp only [L8_2,vv,reduceCtorEq,reduceAdd,reduceEqDiff,(show (i:Int)<(l.length:Int) by omega),hx,Span.enc,h',OV,Rd.As]
 ·have hne:s.out≠[]:=hI.2 (by intro h;exact hl (eq_nil_of_length_eq_zero h));obtain ⟨pre,x,hpx⟩:∃pre x,s.out=pre++[x]:=⟨s.out.dropLast,s.out.getLast hne,(List.dropLast_concat_getLast hne).symm⟩
  have hlen:=hI.1;rw [hpx] at hlen;simp only [length_append,length_cons,length_nil,zero_add] at hlen;have e0:s.out.length=pre.length+1:=by rw [hpx];simp
  have e1:w64 (((pre.length+1:Nat):Int)-1)=(pre.length:Int):=by rw [AX (by omega) (by omega)];omega
  rw [hpx,Jx];simp only [L8_2,vv,reduceCtorEq,reduceAdd,reduceEqDiff,lt_irrefl,T6,length_append,e1,(show (pre.length:Int)<((pre.length+1:Nat):Int) by omega),le_refl,QQ (List.map Seg.enc pre) _ pre.length (by simp),Kg (List.map Seg.enc pre) _ _ pre.length (by simp),TI (List.map Seg.enc pre) _ (pre.length+1) (by simp),Seg.enc,take,drop,cons_append,nil_append,Nat.reduceLeDiff]
def Qp (ses ser:Int) (d:ByteArray) (l:List Span):Int:=if ¬((0≤ses∧ses≤1099511627776)∧(1≤ser∧ser≤1099511627776)) then 2 else if d.size=0 then 20 else if 65536<d.size then 4 else if inside l d.size=false then 1 else if l=[] then 20 else 0
def Sm (ses ser:Int) (d:ByteArray) (l:List Span):List Seg:=if Qp ses ser d l=0 then Cz ser (R7 d ses l) else []
theorem SO {l:List Span} {n:Int} (h:inside l n=true):Ur l n∧l.length≤1000:=by unfold inside at h;have h:=of_decide_eq_true h;have hw:=(Ee h.1).1 h.2;have hc:=((BM l).1 h.1).2.1;exact ⟨fun x hx=>by have:=hw x hx;have:=O5 hc x hx;omega,Cg h.1⟩
theorem s8 (ses ser:Int) (d:ByteArray) (l:List Span):AL C 8 [tI ses,tI ser,.str d,.sl 2 (l.map Span.enc)] [.sl 8 ((Sm ses ser d l).map Seg.enc),tI (Qp ses ser d l)]:=by
 refine AL.of (fun n=>e8 n _ _ _ _) ?_;have hJ:Ev fun n=>Pj n d (l.map Span.enc) ses ser (([.t (.bool (decide (¬((0≤ses∧ses≤1099511627776)∧(1≤ser∧ser≤1099511627776)))))],[]):List AV×Heap)=some [.sl 8 ((Sm ses ser d l).map Seg.enc),tI (Qp ses ser d l)]:=by
  unfold Sm Qp;by_cases h1:(0≤ses∧ses≤1099511627776)∧(1≤ser∧ser≤1099511627776)
  ·by_cases h2:d.size=0
   ·exact Ev.of fun n=>by simp [Pj,vv,reduceCtorEq,reduceAdd,reduceEqDiff,h1,h2,AD,Cn]
   ·by_cases h3:65536<d.size
    ·exact Ev.of fun n=>by simp [Pj,vv,reduceCtorEq,reduceAdd,reduceEqDiff,h1,h2,h3,AD,Cn,(show (65536:Int)<(d.size:Int) by omega)]
    ·by_cases h4:inside l d.size=false
     ·refine (s36 l d.size).mono fun n g => ?_;simp [Pj,vv,reduceCtorEq,reduceAdd,reduceEqDiff,h1,h2,h3,g,h4,AD,Cn,(show ¬(65536:Int)<(d.size:Int) by omega)]
     ·have h4':inside l d.size=true:=by simpa using h4
      by_cases h5:l=[]
      ·refine (s36 l d.size).mono fun n g => ?_;subst h5;rw [h4'] at g;simp only [map_nil] at g;simp [Pj,vv,reduceCtorEq,reduceAdd,reduceEqDiff,h1,h2,h3,g,h4',AD,Cn,(show ¬(65536:Int)<(d.size:Int) by omega)]
      ·obtain ⟨g1,g2⟩:=SO h4';refine ((s36 l d.size).and (outer8 d ses ser l h5 g2 (by omega) g1)).mono fun n g => ?_;have hp:=length_pos_iff.2 h5;simp only [Pj,vv,reduceCtorEq,reduceAdd,reduceEqDiff,h1,not_true_eq_false,Cn,h2,h3,g.1,g.2,h4',h5,(show ¬(65536:Int)<(d.size:Int) by omega),(show ¬((l.length:Int)=0) by omega),beq_iff_eq]
  ·exact Ev.of fun n=>by simp only [Pj,vv,reduceCtorEq,reduceAdd,reduceEqDiff,h1,not_false_eq_true];simp
 refine ((s35 ses 0 1099511627776).and ((s35 ser 1 1099511627776).and hJ)).mono fun n h => ?_;obtain ⟨h1,h2,h3⟩:=h;simp only [h1,h2,vv,reduceCtorEq,reduceAdd,reduceEqDiff,wi];by_cases q1:0≤ses∧ses≤1099511627776
 ·have:(!decide (1≤ser∧ser≤1099511627776))=decide (¬((0≤ses∧ses≤1099511627776)∧(1≤ser∧ser≤1099511627776))):=by rw [Bool.eq_iff_iff,decide_eq_true_eq,not_eq_true',decide_eq_false_iff_not];simp only [q1,true_and,and_self]
  simp only [q1,vv,reduceCtorEq,reduceAdd,reduceEqDiff];rw [this];exact h3
 ·have:(true:Bool)=decide (¬((0≤ses∧ses≤1099511627776)∧(1≤ser∧ser≤1099511627776))):=by symm;rw [decide_eq_true_eq];exact fun h=>q1 h.1
  simp only [q1,vv,reduceCtorEq,reduceAdd,reduceEqDiff];rw [this];exact h3
end Ab
namespace Ab
open Go
def tb (b:UInt8):List Tree:=[.int .u8 (b.toNat:Int)]
def bl (s:ByteArray):List UInt8:=s.data.toList
def mkB (l:List UInt8):ByteArray:=⟨l.toArray⟩
theorem Tx (s:ByteArray):mkB (bl s)=s:=by obtain ⟨a⟩:=s;simp [mkB,bl]
theorem DJ (l:List UInt8):bl (mkB l)=l:=by simp [mkB,bl]
theorem AS (s:ByteArray):(bl s).length=s.size:=by obtain ⟨a⟩:=s;simp [bl,ByteArray.size]
theorem Bp (l:List UInt8):(mkB l).size=l.length:=by rw [← AS,DJ]
theorem CW {a b:ByteArray} (h:bl a=bl b):a=b:=by rw [← Tx a,← Tx b,h]
theorem Gg:bl (ByteArray.mk #[])=[]:=rfl
theorem Di (s:ByteArray):AP s=(bl s).map tb:=rfl
theorem Jd (s:ByteArray) (i:Nat):Ax s i=(((bl s).getD i 0).toNat:Int):=by
 obtain ⟨⟨l⟩⟩:=s;unfold Ax bl;by_cases h:i<l.length
 ·have h1:(ByteArray.mk ⟨l⟩)[i]? = some l[i]:=getElem?_pos (ByteArray.mk ⟨l⟩) i h;rw [h1];simp [List.getD,h]
 ·have h1:(ByteArray.mk ⟨l⟩)[i]? = none:=getElem?_neg (ByteArray.mk ⟨l⟩) i h;rw [h1];simp [List.getD,h]
theorem Eb (l:List UInt8):DU (l.map tb)=true:=by unfold DU;rw [List.all_map,all_eq_true];exact fun x _=>rfl
theorem Ub (b:UInt8):HY (tb b)=b:=by simp [HY,tb]
theorem MP (l:List UInt8) (s:ByteArray):bl (l.foldl ByteArray.push s)=bl s++l:=by
 induction l generalizing s with
 |nil=>simp
 |cons b l ih=>rw [foldl_cons,ih];simp [bl,ByteArray.push]
theorem Fp (l:List UInt8):bytesOf (l.map tb)=mkB l:=by unfold bytesOf;rw [map_map,show HY ∘ tb=id from funext Ub,List.map_id];apply CW;rw [MP,DJ];rfl
def Ki (l:List UInt8) (p:Nat) (m:List UInt8):List UInt8:=l.take p++m++l.drop (p+m.length)
theorem JL (l:List UInt8) (p:Nat) (m:List UInt8):A6 (l.map tb) p (m.map tb)=(Ki l p m).map tb:=by simp [A6,Ki,List.map_take,List.map_drop]
theorem rep_tb (k:Nat):replicate k ([Tree.int IntKind.u8 0]:List Tree)=(replicate k (0:UInt8)).map tb:=by rw [List.map_replicate];rfl
theorem Bl (s:ByteArray) (i j:Nat):bl (s.extract i j)=((bl s).drop i).take (j-i):=by unfold bl;rw [ByteArray.data_extract];simp [List.extract_eq_take_drop]
theorem LY {a b:ByteArray} (h:a.size=b.size) (hb:∀i,i<a.size→(bl a).getD i 0=(bl b).getD i 0):a=b:=by apply CW;apply List.ext_getElem (by rw [AS,AS,h]);intro i h1 h2;have:=hb i (by rw [← AS];exact h1);simpa [List.getD,h1,h2] using this
theorem GB (l:List UInt8) (p:Nat) (m:List UInt8) (h:p+m.length≤l.length):(Ki l p m).length=l.length:=by simp only [Ki,length_append,length_take,length_drop];omega
theorem OM (l:List UInt8) (p:Nat) (m:List UInt8) (h:p+m.length≤l.length) (i:Nat) :
  (Ki l p m).getD i 0=if p≤i∧i<p+m.length then m.getD (i-p) 0 else l.getD i 0:=by
 simp only [Ki,getD_eq_getElem?_getD,List.getElem?_append,length_take,length_append,getElem?_take,getElem?_drop];have e:min p l.length=p:=by omega
 simp only [e];by_cases h1:i<p
 ·rw [if_pos (by omega),if_pos h1,if_pos h1,if_neg (by omega)]
 ·rw [if_neg (c:=i<p) h1];by_cases h2:i<p+m.length
  ·rw [if_pos h2,if_pos ⟨by omega,h2⟩]
  ·rw [if_neg h2,if_neg (by omega),show p+m.length+(i-(p+m.length))=i by omega]
end Ab
namespace Ab
open Go
theorem Mx (l:List UInt8) (i:Nat):Ax (mkB l) i=((l.getD i 0).toNat:Int):=by rw [Jd,DJ]
theorem extract_mk (l:List UInt8) (i j:Nat):(mkB l).extract i j=mkB ((l.drop i).take (j-i)):=CW (by rw [Bl,DJ,DJ])
theorem G9 (l:List UInt8):(mkB l==ByteArray.mk #[])=decide (l=[]):=by rw [Cn,Bp];cases l<;>simp
theorem s146 (l:List UInt8) (hl:l.length≤1000000):AL C 146 [.str (mkB l),.int .u8 0] [.str (mkB (l.dropWhile (· == 0)))]:=by
 refine AL.of (fun n=>e146 n _ _) ?_;refine Jp (fun (r:List UInt8)=>[Tree.str (mkB r)]) (fun (s:List UInt8)=>(([.t (.str (mkB s))],[]):List AV×Heap)) (fun s=>match s with
  |[]=>.done []
  |b::s=>if b=0 then .next s else .done (b::s)) (fun s=>s.length≤1000000) (fun s=>s.length) (fun s=>s.dropWhile (· == 0)) l rfl hl rfl
  (fun s hs=>Ev.of fun n again => ?_) (fun s s' hI h => ?_) (fun s hI => ?_)
 ·cases s with
  |nil=>simp [Q2,vv,Bp,AD,Rd.BX]
  |cons b s=>
   simp only [Q2,vv,reduceCtorEq,reduceAdd,reduceEqDiff,Bp,Mx,extract_mk];simp only [length_cons,List.getD_cons_zero,List.drop_succ_cons,drop_zero,Nat.add_sub_cancel,take_length,AD];by_cases hb:b=0
   ·subst hb;simp [Rd.As];intro h;omega
   ·have hbn:¬(b.toNat=0):=fun h=>hb (UInt8.toNat_inj.1 (by simpa using h));simp [hb,hbn,Rd.BX]
 ·cases s with
  |nil=>simp at h
  |cons b s=>
   simp only at h;split at h
   ·simp only [Rd.next.injEq] at h;subst h;simp at hI ⊢;omega
   ·simp at h
 ·cases s with
  |nil=>rfl
  |cons b s=>by_cases hb:b=0<;>simp [hb,Rd.fin,dropWhile_cons]
def Em (l:List UInt8):List UInt8:=(l.reverse.dropWhile (· == 0)).reverse
theorem KW (l:List UInt8) (b:UInt8):Em (l++[b])=if b=0 then Em l else l++[b]:=by unfold Em;rw [List.reverse_append];simp only [List.reverse_cons,List.reverse_nil,nil_append,singleton_append,dropWhile_cons];by_cases hb:b=0<;>simp [hb]
theorem Hf (l:List UInt8):l=[]∨∃s b,l=s++[b]:=by
 by_cases h:l=[]
 ·exact .inl h
 ·exact .inr ⟨_,_,(List.dropLast_concat_getLast h).symm⟩
theorem s147 (l:List UInt8) (hl:l.length≤1000000):AL C 147 [.str (mkB l),.int .u8 0] [.str (mkB (Em l))]:=by
 refine AL.of (fun n=>e147 n _ _) ?_;refine Jp (fun (r:List UInt8)=>[Tree.str (mkB r)]) (fun (s:List UInt8)=>(([.t (.str (mkB s))],[]):List AV×Heap)) (fun s=>if s.getLast? = some 0 then .next s.dropLast else .done s)
  (fun s=>s.length≤1000000) (fun s=>s.length) Em l rfl hl rfl
  (fun s hs=>Ev.of fun n again => ?_) (fun s s' hI h => ?_) (fun s hI => ?_)
 ·rcases Hf s with rfl|⟨s,b,rfl⟩
  ·simp [Q1,Q4,vv,Bp,AD,Rd.BX]
  ·have hs':s.length+1≤1000000:=by simpa using hs
   have e:w64 (((s.length+1:Nat):Int)-1)=(s.length:Int):=by rw [OE (by omega) (by omega)];simp
   simp only [Q1,Q4,vv,reduceCtorEq,reduceAdd,reduceEqDiff,Bp,Mx,extract_mk,length_append,length_cons,length_nil,e];simp only [AD,List.getLast?_concat,Option.some.injEq,List.dropLast_concat,drop_zero,toNat_natCast,sub_zero,List.take_left];have e2:(s++[b]).getD s.length 0=b:=by simp [List.getD]
   rw [e2];by_cases hb:b=0
   ·subst hb;simp [Rd.As]
    first|omega|(rw [if_pos (by omega),if_pos (by omega)])
   ·have hbn:¬(b.toNat=0):=fun h=>hb (UInt8.toNat_inj.1 (by simpa using h));simp [hb,hbn,Rd.BX]
    try omega
 ·split at h
  ·rename_i hg;simp only [Rd.next.injEq] at h;subst h;have:s≠[]:=fun e=>by simp [e] at hg
   have h2:s.length≠0:=fun e=>this (eq_nil_of_length_eq_zero e);simp only [List.length_dropLast];omega
  ·simp at h
 ·rcases Hf s with rfl|⟨s,b,rfl⟩
  ·simp [Rd.fin,Em]
  ·rw [KW];by_cases hb:b=0<;>simp [hb,Rd.fin]
def Gm (l:List UInt8):Bool:=l.all (· == 0)
theorem Mn:∀(l:List UInt8),l.dropWhile (· == 0)=[]↔Gm l=true
 |[]=>by simp [Gm]
 |b::l=>by
  have:=Mn l;by_cases hb:b=0
  ·simp only [hb,dropWhile_cons,beq_self_eq_true,if_true,this,Gm,all_cons,Bool.true_and]
  ·simp [hb,dropWhile_cons,Gm]
theorem Po (l:List UInt8):(Em l).dropWhile (· == 0)=[]↔Gm l=true:=by
 rw [Mn];have h:∀k:Nat,∀l:List UInt8,l.length≤k→(Gm (Em l)=true↔Gm l=true):=by
  intro k
  induction k with
  |zero=>intro l hl;have:l=[]:=eq_nil_of_length_eq_zero (by omega);subst this;simp [Em]
  |succ k ih=>
   intro l hl;rcases Hf l with rfl|⟨l,b,rfl⟩
   ·simp [Em]
   ·rw [KW];by_cases hb:b=0
    ·rw [if_pos hb,ih l (by simp at hl;omega)];simp [Gm,hb]
    ·rw [if_neg hb]
 exact h _ l (le_refl _)
theorem Oq (p:UInt8→Bool):∀l:List UInt8,(l.dropWhile p).length≤l.length
 |[]=>le_refl _
 |b::l=>by rw [dropWhile_cons];have:=Oq p l;split<;>simp only [length_cons]<;>omega
theorem J48t (n:Nat) (s:ByteArray):Ph n s ([.t (.bool true)],[])=some [.str s]:=by unfold Ph;exact AZ rfl _ _
theorem J48f (n:Nat) (s t u:ByteArray) (h1:AB C n 147 [.str s,.int .u8 0]=some [.str t]) (h2:AB C n 146 [.str t,.int .u8 0]=some [.str u]):Ph n s ([.t (.bool false)],[])=some [.str u]:=by
 have e1:Ax (ByteArray.mk #[0]) 0=0:=by decide
 unfold Ph;rw [Aw (show ¬(vB ([AV.t (Tree.bool false)],[]) 0=true) from Bool.false_ne_true),e1,AZ (by decide),h1,Option.bind_some,AZ (by exact rfl),AZ (by exact rfl)];have e2:gS [Tree.str t] 0=t:=rfl;rw [e2,h2,Option.bind_some,AZ (by exact rfl),AZ (by exact rfl)];rfl
theorem s91 (l:List UInt8) (hl:l.length≤1000000):∃t:List UInt8,(t=[]↔Gm l=true)∧AL C 91 [.str (mkB l),.str (ByteArray.mk #[0])] [.str (mkB t)]:=by
 by_cases h:l=[]
 ·subst h;refine ⟨[],by simp [Gm],AL.of (fun n=>e91 n _) (Ev.of fun n => ?_)⟩;have h1:∀X Y:Option (List Tree),cnd ((mkB []==ByteArray.mk #[])=true) X Y=X:=fun X Y=>AZ (by rw [G9];exact decide_eq_true rfl) X Y;rw [join_eq,h1];exact J48t n (mkB [])
 ·refine ⟨(Em l).dropWhile (· == 0),Po l,AL.of (fun n=>e91 n _) ?_⟩;have hlen:(Em l).length≤l.length:=by unfold Em;rw [List.length_reverse];refine le_trans (Oq _ _) (by rw [List.length_reverse];exact le_refl _)
  refine ((s147 l hl).and (s146 (Em l) (by omega))).mono fun n hh => ?_;have h1:∀X Y:Option (List Tree),cnd ((mkB l==ByteArray.mk #[])=true) X Y=Y:=fun X Y=>Aw (by rw [G9,decide_eq_false h];exact Bool.false_ne_true) X Y;have h2:(ByteArray.mk #[0]==ByteArray.mk #[])=false:=by decide
  rw [join_eq,h1,h2];exact J48f n _ _ _ hh.1 hh.2
end Ab
namespace Ab
open Go
def Qw (r:Rcv):Prop:=(0≤r.ses∧r.ses≤1099511627776)∧(r.tot = -1∨1≤r.tot∧r.tot≤65536)
def KnR (r:Rcv):Prop:=D5 r.known=0∧(r.known=[]↔r.tot = -1)∧(r.known=[]∨0≤D0 r.known∧ED r.known≤r.tot)
def PS (r:Rcv):Prop:=∀i,i<r.data.size→(bl r.data).getD i 0≠0→B5 i r.known
instance (r:Rcv):Decidable (Qw r):=by unfold Qw;exact inferInstance
instance (r:Rcv):Decidable (KnR r):=by unfold KnR;exact inferInstance
instance (r:Rcv):Decidable (PS r):=by unfold PS;exact inferInstance
def Hg (t:Int):Int:=if 0>t then 0 else t
def D4 (r:Rcv):Int:=if ¬Qw r then 2 else if ¬KnR r then 1 else if (r.data.size:Int)≠Hg r.tot then 10 else if PS r then 0 else 24
end Ab
namespace Ab
open Go
def Fi (D:List UInt8) (_:Nat) (a:Int) (x:Span):Rd Int Int:=if Gm ((D.drop a.toNat).take (x.fro.toNat-a.toNat))=true then .next x.to else .done 24
def LI (D:List UInt8) (a:Int):Int:=if Gm (D.drop a.toNat)=true then 0 else 24
theorem Uk (l:List UInt8):Gm l=true↔∀k,k<l.length→l.getD k 0=0:=by
 unfold Gm;rw [all_eq_true];constructor
 ·intro h k hk;have:l.getD k 0=l[k]:=by simp [List.getD,hk]
  rw [this];simpa using h _ (getElem_mem hk)
 ·intro h x hx;obtain ⟨k,hk,rfl⟩:=getElem_of_mem hx;have:=h k hk;have e:l.getD k 0=l[k]:=by simp [List.getD,hk]
  rw [e] at this;simp [this]
theorem M3 (D:List UInt8) (a b:Nat) (hb:b≤D.length):Gm ((D.drop a).take (b-a))=true↔∀k,a≤k→k<b→D.getD k 0=0:=by
 rw [Uk];have hg:∀k,k<b-a→((D.drop a).take (b-a)).getD k 0=D.getD (a+k) 0:=fun k hk=>by simp [getD_eq_getElem?_getD,getElem?_take,hk,getElem?_drop]
 constructor
 ·intro h k h1 h2;have:=h (k-a) (by simp;omega);rw [hg _ (by omega),show a+(k-a)=k by omega] at this;exact this
 ·intro h k hk;simp at hk;rw [hg k (by omega)];exact h _ (by omega) (by omega)
theorem RX (D:List UInt8):∀(l:List Span) (i:Nat) (a:Int),Canon (a-1) l→FI l D.length→0≤a→a≤D.length→
  (B9 (Fi D) (LI D) i l a=0∧(∀k:Nat,a≤k→k<D.length→D.getD k 0≠0→B5 k l))∨(B9 (Fi D) (LI D) i l a=24∧∃k:Nat,a≤k∧k<D.length∧D.getD k 0≠0∧¬B5 k l)
 |[],i,a,hc,hw,h0,h1=>by
  simp only [B9,LI];have key:=M3 D a.toNat D.length (le_refl _);rw [take_of_length_le (by simp)] at key;by_cases h:Gm (D.drop a.toNat)=true
  ·rw [if_pos h];exact .inl ⟨rfl,fun k h2 h3 h4=>(h4 (key.1 h k (by omega) h3)).elim⟩
  ·rw [if_neg h];refine .inr ⟨rfl,?_⟩;have h5:¬∀k,a.toNat≤k→k<D.length→D.getD k 0=0:=fun hh=>h (key.2 hh);simp only [Classical.not_forall] at h5;obtain ⟨k,h6,h7,h8⟩:=h5;exact ⟨k,by omega,h7,h8,fun h=>h⟩
 |x::l,i,a,hc,hw,h0,h1=>by
  obtain ⟨c1,c2,c3⟩:=hc;have hx:=hw x (mem_cons_self);have key:=M3 D a.toNat x.fro.toNat (by omega);simp only [B9];by_cases h:Gm ((D.drop a.toNat).take (x.fro.toNat-a.toNat))=true
  ·simp only [Fi,h,if_true];have ih:=RX D l (i+1) x.to (LU c3 (by omega)) (fun y hy=>hw y (mem_cons_of_mem _ hy)) (by omega) (by omega);have hz:=key.1 h;rcases ih with ⟨e,ih⟩|⟨e,k,k1,k2,k3,k4⟩
   ·refine .inl ⟨e,fun k k1 k2 k3 => ?_⟩;by_cases hk:(k:Int)<x.fro
    ·exact (k3 (hz k (by omega) (by omega))).elim
    ·by_cases hk2:(k:Int)<x.to
     ·exact .inl ⟨by omega,hk2⟩
     ·exact .inr (ih k (by omega) k2 k3)
   ·refine .inr ⟨e,k,by omega,k2,k3,fun hm => ?_⟩;rcases hm with hm|hm
    ·omega
    ·exact k4 hm
  ·simp only [Fi,h,if_false,false_eq_true];refine .inr ⟨trivial,?_⟩;have h5:¬∀k,a.toNat≤k→k<x.fro.toNat→D.getD k 0=0:=fun hh=>h (key.2 hh);simp only [Classical.not_forall] at h5;obtain ⟨k,h6,h7,h8⟩:=h5;refine ⟨k,by omega,by omega,h8,fun hm => ?_⟩;rcases hm with hm|hm
   ·omega
   ·have:=CE c3 hm;omega
theorem s46 (r:Rcv):AL C 46 r.enc [tI (D4 r)]:=by
 refine AL.of (fun n=>e46 n _ _ _ _) ?_;unfold D4;by_cases hr:Qw r
 ·have hr':=hr;obtain ⟨⟨h1,h2⟩,h3⟩:=hr;have hj:∀(J:List AV×Heap→Option (List Tree)),(cnd (decide (r.ses<0)=true) (J ([AV.t (Tree.bool true)],[])) (cnd (decide (r.ses>1099511627776)=true) (J ([AV.t (Tree.bool true)],[])) (cnd ((r.tot != -1)=true) (cnd (decide (r.tot<1)=true) (J ([AV.t (Tree.bool true)],[])) (J ([AV.t (Tree.bool (decide (r.tot>65536)))],[]))) (J ([AV.t (Tree.bool false)],[])))))=J ([AV.t (Tree.bool false)],[]):=fun J=>by
   simp only [AD,decide_eq_true_eq,bne_iff_ne];rw [if_neg (by omega),if_neg (by omega)];split
   ·rw [if_neg (by omega),decide_eq_false (by omega)]
   ·rfl
  simp only [join_eq];refine Ev.conv' (fun n h=>(hj _).trans h) ?_;simp only [VP,vv,reduceCtorEq,reduceAdd,reduceEqDiff];refine Ev.rw (s80 r.known) (fun n h=>by simp only [h,vv,reduceCtorEq,reduceAdd,reduceEqDiff];rfl) ?_;rw [if_neg (not_not_intro hr')];have el:(r.known.length:Int)=0↔r.known=[]:=by rw [← List.length_eq_zero_iff];omega
  have eb:((r.known.length:Int)==0)=decide (r.known=[]):=by rw [Bool.eq_iff_iff,beq_iff_eq,decide_eq_true_eq,el]
  have eb2:(r.tot == -1)=decide (r.tot = -1):=by rw [Bool.eq_iff_iff,beq_iff_eq,decide_eq_true_eq]
  simp only [eb,eb2];by_cases hc:D5 r.known=0
  ·simp only [hc,bne_self_eq_false,vv,reduceCtorEq,reduceAdd,reduceEqDiff,VQ];by_cases he:(r.known=[]↔r.tot = -1)
   ·have e1:(! (decide (r.known=[])==decide (r.tot = -1)))=false:=by
     by_cases hx:r.known=[]
     ·simp [hx,he.1 hx]
     ·have hy:¬r.tot = -1:=fun h=>hx (he.2 h);simp [hx,hy]
    simp only [e1,vv,reduceCtorEq,reduceAdd,reduceEqDiff];have hkn:KnR r↔(r.known=[]∨0≤D0 r.known∧ED r.known≤r.tot):=⟨fun h=>h.2.2,fun h=>⟨hc,he,h⟩⟩
    have hstep:∀(J:List AV×Heap→Option (List Tree)),(cnd (0<(r.known.length:Int)) (Option.bind (Option.map Span.enc r.known[0]?) fun y11=>cnd (okI y11 0) (cnd (gI y11 0<0) (J ([AV.t (Tree.bool true)],[])) (cnd (0≤w64 ((r.known.length:Int)-1)) (Option.bind (Option.map Span.enc r.known[(w64 ((r.known.length:Int)-1)).toNat]?) fun y12=>cnd (okI y12 1) (J ([AV.t (Tree.bool (decide (r.tot<gI y12 1)))],[])) none) none)) none) (J ([AV.t (Tree.bool false)],[])))=J ([AV.t (Tree.bool (decide (¬KnR r)))],[]):=fun J=>by
     by_cases hl:r.known=[]
     ·have:KnR r:=hkn.2 (.inl hl);simp [hl,AD,this]
     ·obtain ⟨e1,e2⟩:=Na hl;obtain ⟨e3,e4⟩:=NW hl;have hk:=Cg hc;have hlen:r.known.length≠0:=fun e=>hl (eq_nil_of_length_eq_zero e);simp only [(show (0:Int)<r.known.length by omega),vv,reduceCtorEq,reduceAdd,reduceEqDiff,e1,OE (show r.known.length<4611686018427387904 by omega) (by omega),e3,Span.enc];rw [← e2,← e4];by_cases h3:D0 r.known<0
      ·have:¬KnR r:=fun h=>by rcases hkn.1 h with h|h;exact hl h;omega
       simp [h3,this,AD]
      ·by_cases h4:r.tot<ED r.known
       ·have:¬KnR r:=fun h=>by rcases hkn.1 h with h|h;exact hl h;omega
        simp [h3,h4,this,AD]
       ·have:KnR r:=hkn.2 (.inr ⟨by omega,by omega⟩);simp [h3,h4,this,AD]
    refine Ev.conv' (fun n h=>(hstep _).trans h) ?_;simp only [J46_2,vv,reduceCtorEq,reduceAdd,reduceEqDiff];by_cases hk:KnR r
    ·simp only [hk,not_true_eq_false,vv,reduceCtorEq,reduceAdd,reduceEqDiff];by_cases hs:(r.data.size:Int)=Hg r.tot
     ·have hb:((r.data.size:Int) != if 0>r.tot then 0 else r.tot)=false:=by simpa [Hg] using hs
      have hsz:r.data.size≤65536:=by unfold Hg at hs;split at hs<;>omega
      rw [if_neg (not_not_intro hs)];simp only [gt_iff_lt] at hb;simp only [hb,vv,reduceCtorEq,reduceAdd,reduceEqDiff];have hW:FI r.known (bl r.data).length:=by
       have hw:=(Ee hc).1 hk.2.2;rw [AS,hs];intro x hx;have:=hw x hx;unfold Hg;split
       ·have ht:r.tot = -1:=by omega
        have:=he.2 ht;rw [this] at hx;cases hx
       ·exact this
      have hC:Canon (0-1) r.known:=by
       have h:=((BM r.known).1 hc).2.1;cases hkk:r.known with
       |nil=>trivial
       |cons x l=>
        rw [hkk] at h;refine ⟨?_,h.2.1,h.2.2⟩;have:=hW x (by rw [hkk];exact mem_cons_self);omega
      have hlen:=Cg hc;have hd:r.data=mkB (bl r.data):=(Tx _).symm;refine Ao (fun (r:Int)=>[tI r]) r.known (fun i (a:Int)=>(([.t (tI i)],[.box [.t (tI a)]]):List AV×Heap)) (Fi (bl r.data)) (LI (bl r.data)) (fun i a=>Canon (a-1) (r.known.drop i)∧0≤a∧a≤r.data.size) 0 rfl ⟨by simpa using hC,by omega,by omega⟩
       ?_ (fun i a x hx hI => ?_) (fun i a x a' hx hI h => ?_) (fun a hI => ?_)
      ·rcases RX (bl r.data) r.known 0 0 hC hW (by omega) (by omega) with ⟨e,h⟩|⟨e,k,k1,k2,k3,k4⟩
       ·rw [e,if_pos];intro i hi hi2;exact h i (by omega) (by rw [AS];exact hi) hi2
       ·rw [e,if_neg];intro h;exact k4 (h k (by rw [AS] at k2;exact k2) k3)
      ·have hi:=AY hx;have hdr:r.known.drop i=x::r.known.drop (i+1):=by rw [drop_eq_getElem_cons hi];congr 1;rw [getElem?_eq_getElem hi] at hx;exact Option.some.inj hx
       obtain ⟨c1,c2,c3⟩:=hI;rw [hdr] at c1;have hx2:=hW x (mem_of_getElem? hx);rw [AS] at hx2;obtain ⟨t,ht,h48⟩:=s91 (((bl r.data).drop a.toNat).take (x.fro.toNat-a.toNat)) (by simp;rw [AS];omega);refine h48.mono fun n h again => ?_;have hxc:=c1.1;have he:r.data.extract a.toNat x.fro.toNat=mkB (((bl r.data).drop a.toNat).take (x.fro.toNat-a.toNat)):=by apply CW;rw [Bl,DJ]
       simp only [U3,vv,reduceCtorEq,reduceAdd,reduceEqDiff,hx,Span.enc,(show (i:Int)<r.known.length by omega),BL (show i<4611686018427387904 by omega)];rw [AZ (by have:=c1.2.1;omega),AZ (by omega),he,h];simp only [vv,reduceCtorEq,reduceAdd,reduceEqDiff,G9,Fi,← ht];by_cases htt:t=[]<;>simp [htt,AD,Rd.As,Rd.BX]
      ·have hi:=AY hx;have hdr:r.known.drop i=x::r.known.drop (i+1):=by rw [drop_eq_getElem_cons hi];congr 1;rw [getElem?_eq_getElem hi] at hx;exact Option.some.inj hx
       obtain ⟨c1,c2,c3⟩:=hI;rw [hdr] at c1;have hx2:=hW x (mem_of_getElem? hx);rw [AS] at hx2;unfold Fi at h;split at h
       ·simp only [Rd.next.injEq] at h;subst h;have:=c1.2.1;have:=c1.1;exact ⟨LU c1.2.2 (by omega),by omega,by omega⟩
       ·cases h
      ·obtain ⟨c1,c2,c3⟩:=hI;obtain ⟨t,ht,h48⟩:=s91 ((bl r.data).drop a.toNat) (by simp;rw [AS];omega);refine h48.mono fun n h again => ?_;have he:r.data.extract a.toNat r.data.size=mkB ((bl r.data).drop a.toNat):=by apply CW;rw [Bl,DJ,take_of_length_le (by simp;rw [AS];omega)]
       simp only [U3,vv,reduceCtorEq,reduceAdd,reduceEqDiff,lt_irrefl];rw [AZ (by omega),AZ (by omega),he,h];simp only [vv,reduceCtorEq,reduceAdd,reduceEqDiff,G9,LI,← ht];by_cases htt:t=[]<;>simp [htt,AD]
     ·have hb:((r.data.size:Int) != if 0>r.tot then 0 else r.tot)=true:=by simpa [Hg] using hs
      rw [if_pos hs];simp only [gt_iff_lt] at hb;simp only [hb,vv,reduceCtorEq,reduceAdd,reduceEqDiff];exact Ev.of fun n=>by first|rfl|trivial
    ·simp only [hk,not_false_eq_true,vv,reduceCtorEq,reduceAdd,reduceEqDiff];exact Ev.of fun n=>by first|rfl|trivial
   ·have e1:(! (decide (r.known=[])==decide (r.tot = -1)))=true:=by by_cases hx:r.known=[]<;>by_cases hy:r.tot = -1<;>simp_all
    have:¬KnR r:=fun h=>he h.2.1;simp only [e1,this,not_false_eq_true,vv,reduceCtorEq,reduceAdd,reduceEqDiff];exact Ev.of fun n=>by first|rfl|trivial
  ·have:(D5 r.known != 0)=true:=by simpa using hc
   have h2:¬KnR r:=fun h=>hc h.1;simp only [this,h2,VQ,not_false_eq_true,vv,reduceCtorEq,reduceAdd,reduceEqDiff];exact Ev.of fun n=>by first|rfl|trivial
 ·rw [if_pos hr];refine Ev.of fun n => ?_;unfold Qw at hr;simp only [join_eq,VP,vv,reduceCtorEq,reduceAdd,reduceEqDiff,AD,bne_iff_ne];by_cases h1:r.ses<0
  ·simp [h1]
  ·by_cases h2:1099511627776<r.ses
   ·simp [h1,h2]
   ·have h3:r.tot ≠ -1:=by omega
    simp only [h1,h2,if_false,h3,ne_eq,not_false_eq_true,if_true];by_cases h4:r.tot<1
    ·simp [h4]
    ·simp [h4,show 65536<r.tot by omega]
end Ab
namespace Ab
open Go
def sp (x:Seg):Span:=⟨x.off,x.off+x.data.size⟩
theorem Mu {x:Seg} (h:DN x=0):(1≤x.kind∧x.kind≤3)∧Bm x∧Cj x:=by
 unfold DN at h;split at h
 ·omega
 ·rename_i h1;split at h
  ·omega
  ·rename_i h2;split at h
   ·omega
   ·rename_i h3;exact ⟨Classical.not_not.1 h1,Classical.not_not.1 h2,Classical.not_not.1 h3⟩
theorem Px {x:Seg} (h:DN x=0):0≤x.off∧x.off≤65536∧x.data.size≤16∧0≤x.tot∧x.tot≤65536:=by
 obtain ⟨hk,hn,hc⟩:=Mu h;unfold Bm at hn;unfold Cj at hc;by_cases h1:x.kind=1
 ·grind
 ·by_cases h2:x.kind=2
  ·grind
  ·have:x.kind=3:=by omega
   grind
theorem D3 {x:Seg} (h:DN x=0) (h1:x.kind=1):1≤x.tot∧x.tot≤65536∧0≤x.off∧1≤x.data.size∧x.data.size≤16∧x.off+x.data.size≤x.tot∧x.claims=[]∧(x.chk=true→1≤x.ser∧x.ser≤1099511627776)∧0≤x.ses∧x.ses≤1099511627776:=by obtain ⟨hk,hn,hc⟩:=Mu h;unfold Bm at hn;unfold Cj at hc;grind
theorem s87 (r:Rcv) (x:Seg) (hx:DN x=0):AL C 87 (r.enc++x.enc) [.sl 2 ((Cv r.known [sp x]).map Span.enc),tI (EV r.known [sp x])]:=by obtain ⟨h1,h2,h3,_⟩:=Px hx;refine AL.of (fun n=>e87 n _ _ _ _ _ _ _ _ _ _ _ _) ?_;refine (s145 r.known [sp x]).mono fun n h => ?_;rw [Rw] at h;simp only [map_cons,map_nil,sp,Span.enc] at h;rw [AX (x:=x.off+(x.data.size:Int)) (by omega) (by omega)];simp only [h,vv,reduceCtorEq,reduceAdd,reduceEqDiff];rfl
theorem NV {a b:List UInt8} (h:a.length=b.length):a=b↔∀k,k<a.length→a.getD k 0=b.getD k 0:=by
 constructor
 ·intro e k _;rw [e]
 ·intro hk;apply List.ext_getElem h;intro i h1 h2;have:=hk i h1;simpa [List.getD,h1,h2] using this
theorem IT (D:List UInt8) (a b k:Nat) (hb:b≤D.length) (hk:k<b-a):((D.drop a).take (b-a)).getD k 0=D.getD (a+k) 0:=by simp [getD_eq_getElem?_getD,getElem?_take,hk,getElem?_drop]
theorem part_eq (D E:List UInt8) (f t o:Nat) (h1:f<t) (h2:t≤D.length) (h3:o≤f) (h4:t-o≤E.length) :
  ((D.drop f).take (t-f)=(E.drop (f-o)).take ((t-o)-(f-o))↔∀k,f≤k→k<t→D.getD k 0=E.getD (k-o) 0):=by
 rw [NV (by simp;omega)];constructor
 ·intro h k k1 k2;have:=h (k-f) (by simp;omega);rw [IT D f t _ h2 (by omega),IT E (f-o) (t-o) _ h4 (by omega),show f+(k-f)=k by omega,show f-o+(k-f)=k-o by omega] at this;exact this
 ·intro h k hk;simp at hk;rw [IT D f t _ h2 (by omega),IT E (f-o) (t-o) _ h4 (by omega),show f-o+k=f+k-o by omega];exact h _ (by omega) (by omega)
def agree (r:Rcv) (x:Seg):Prop:=∀i,i<x.data.size→B5 (x.off+i) r.known→(bl r.data).getD (x.off.toNat+i) 0=(bl x.data).getD i 0
def FW (r:Rcv) (x:Seg) (k:Span):Prop:=∀i,i<x.data.size→k.fro≤x.off+i→x.off+i<k.to→(bl r.data).getD (x.off.toNat+i) 0=(bl x.data).getD i 0
instance (r:Rcv) (x:Seg):Decidable (agree r x):=by unfold agree;exact inferInstance
instance (r:Rcv) (x:Seg) (k:Span):Decidable (FW r x k):=by unfold FW;exact inferInstance
def DR (r:Rcv) (x:Seg):Bool:=decide (x.kind=1∧x.ses=r.ses∧(r.tot = -1∨x.tot=r.tot)∧agree r x∧EV r.known [sp x]=0)
theorem Sw (r:Rcv) (x:Seg):agree r x↔r.known.all (fun k=>decide (FW r x k))=true:=by
 have hm:∀(t:Int) (l:List Span),B5 t l↔∃k∈l,k.fro≤t∧t<k.to:=by
  intro t l
  induction l with
  |nil=>simp [B5]
  |cons y l ih=>simp only [B5,ih,mem_cons,exists_eq_or_imp]
 rw [all_eq_true];simp only [decide_eq_true_eq];unfold agree FW;constructor
 ·intro h k hk i hi h1 h2;exact h i hi ((hm _ _).2 ⟨k,hk,h1,h2⟩)
 ·intro h i hi hmem;obtain ⟨k,hk,h1,h2⟩:=(hm _ _).1 hmem;exact h k hk i hi h1 h2
theorem CD {r:Rcv} (h:D4 r=0):Qw r∧KnR r∧(r.data.size:Int)=Hg r.tot∧PS r:=by
 unfold D4 at h;split at h
 ·omega
 ·rename_i h1;split at h
  ·omega
  ·rename_i h2;split at h
   ·omega
   ·rename_i h3;split at h
    ·rename_i h4;exact ⟨Classical.not_not.1 h1,Classical.not_not.1 h2,Classical.not_not.1 h3,h4⟩
    ·omega
theorem Kr {r:Rcv} (h:D4 r=0):FI r.known r.data.size:=by
 obtain ⟨h1,h2,h3,h4⟩:=CD h;have hw:=(Ee h2.1).1 h2.2.2;rw [h3];intro x hx;have:=hw x hx;unfold Hg;split
 ·have ht:r.tot = -1:=by rcases h1.2 with h|h<;>omega
  have:=h2.2.1.2 ht;rw [this] at hx;cases hx
 ·exact this
theorem Si {l:List Span} {b:Int} (h:Canon b l):∀y∈l,y.fro<y.to:=fun y hy=>(O5 h y hy).2
theorem inner86 (r:Rcv) (x:Seg) (hr:D4 r=0) (hx:DN x=0) (hk:x.kind=1):Ev fun n=>∀z:List AV×Heap→Option (List Tree),AH (fun p again=>Rl n (r.known.map Span.enc) x.kind x.ses x.ser x.off x.tot x.chk x.data (x.claims.map Span.enc) r.ses r.tot r.data z p again) n ([.t (tI 0)],[.box []])=z ([.t (.bool (decide (agree r x)))],[.box []]):=by
 obtain ⟨c1,c2,c3,c4⟩:=CD hr;have hW:=Kr hr;have hlen:=Cg c2.1;obtain ⟨g1,g2,g3,g4,g5,g6,g7⟩:=D3 hx hk;have hcan:=Si ((BM r.known).1 c2.1).2.1;have hsz:r.data.size≤65536:=by have:=c1.2;unfold Hg at c3;split at c3<;>omega
 refine Fg r.known (fun i (_:Unit)=>(([.t (tI i)],[.box []]):List AV×Heap)) (fun _ (_:Unit) k=>if (fun k=>decide (FW r x k)) k=true then .next () else .done false) (fun _=>true) (fun (z:List AV×Heap→Option (List Tree)) (q:Bool)=>z ([AV.t (Tree.bool q)],[AQ.box []])) (fun _ _=>True) () rfl trivial ?_
  (fun i s k hk' hI=>Ev.of fun n z again => ?_) (fun _ _ _ _ _ _ _=>trivial) (fun s hI=>Ev.of fun n z again => ?_)
 ·rw [OO];rw [Bool.eq_iff_iff,decide_eq_true_eq,Sw];by_cases h:r.known.all (fun k=>decide (FW r x k))=true<;>simp [h]
 ·have hi:=AY hk';have hkw:=hW k (mem_of_getElem? hk');have hkc:=hcan k (mem_of_getElem? hk');simp only [Rl,vv,reduceCtorEq,reduceAdd,reduceEqDiff,hk',Span.enc,(show (i:Int)<r.known.length by omega),BL (show i<4611686018427387904 by omega),AX (show -9223372036854775808≤x.off+(x.data.size:Int) by omega) (by omega),J86_1,CR];have ef:(if x.off>k.fro then x.off else k.fro)=((if x.off>k.fro then x.off else k.fro).toNat:Int):=by split<;>omega
  generalize hf:(if x.off>k.fro then x.off else k.fro)=f at *;generalize ht:(if x.off+(x.data.size:Int)<k.to then x.off+(x.data.size:Int) else k.to)=t at *;have hf2:f=max x.off k.fro:=by rw [← hf];simp only [Int.max_def];split<;>split<;>omega
  have ht2:t=min (x.off+(x.data.size:Int)) k.to:=by rw [← ht];simp only [Int.min_def];split<;>split<;>omega
  by_cases hft:f<t
  ·have hok:FW r x k↔(r.data.extract f.toNat t.toNat=x.data.extract (f-x.off).toNat (t-x.off).toNat):=by
    have key:=part_eq (bl r.data) (bl x.data) f.toNat t.toNat x.off.toNat (by omega) (by rw [AS];omega) (by omega) (by rw [AS];omega);have e1:(r.data.extract f.toNat t.toNat=x.data.extract (f-x.off).toNat (t-x.off).toNat)↔((bl r.data).drop f.toNat).take (t.toNat-f.toNat)=((bl x.data).drop (f.toNat-x.off.toNat)).take ((t.toNat-x.off.toNat)-(f.toNat-x.off.toNat)):=by rw [show (f-x.off).toNat=f.toNat-x.off.toNat by omega,show (t-x.off).toNat=t.toNat-x.off.toNat by omega,← Bl,← Bl];exact ⟨fun h=>by rw [h],fun h=>CW h⟩
    rw [e1,key];unfold FW;constructor
    ·intro h q h1 h2;have:=h (q-x.off.toNat) (by omega) (by omega) (by omega);rw [show x.off.toNat+(q-x.off.toNat)=q by omega] at this;exact this
    ·intro h i h1 h2 h3;have:=h (x.off.toNat+i) (by omega) (by omega);rw [show x.off.toNat+i-x.off.toNat=i by omega] at this;exact this
   rw [AX (x:=t-x.off) (by omega) (by omega),AX (x:=f-x.off) (by omega) (by omega)];rw [AZ (show f<t from hft),AZ (by omega),AZ (by omega),AZ (by omega),AZ (by omega)];simp only [hok,bne,Dn];by_cases he:r.data.extract f.toNat t.toNat=x.data.extract (f-x.off).toNat (t-x.off).toNat<;>simp [he,AD,Rd.As,Rd.BX]
  ·have hok:FW r x k:=by intro i h1 h2 h3;omega
   rw [Aw (show ¬f<t from hft)];simp [hok,AD,Rd.As]
 ·simp only [Rl,vv,reduceCtorEq,reduceAdd,reduceEqDiff,lt_irrefl,CR]
theorem s86 (r:Rcv) (x:Seg) (hr:D4 r=0) (hx:DN x=0):AL C 86 (r.enc++x.enc) [.bool (DR r x)]:=by
 refine AL.of (fun n=>e86 n _ _ _ _ _ _ _ _ _ _ _ _) ?_;simp only [CR];refine Ao (fun (b:Bool)=>[Tree.bool b]) [0,1,2,3] (fun i (_:Unit)=>(([.t (tI i)],[.box []]):List AV×Heap)) (fun i (_:Unit) (_:Nat)=>if (match i with
  |0=>decide (x.kind=1∧x.ses=r.ses)
  |1=>decide (r.tot = -1∨x.tot=r.tot)
  |2=>decide (agree r x)
  |_=>decide (EV r.known [sp x]=0))=true then .next () else .done false) (fun _=>true) (fun i _=>0<i→x.kind=1) () rfl (fun h=>by omega) ?_
  (fun i s k hk hI => ?_) (fun i s k s' hk hI h h0 => ?_) (fun s hI=>Ev.of fun n again => ?_)
 ·unfold DR;simp only [B9];by_cases h1:x.kind=1<;>by_cases h2:x.ses=r.ses<;>by_cases h3:(r.tot = -1∨x.tot=r.tot)<;>by_cases h4:agree r x<;>by_cases h5:EV r.known [sp x]=0<;>simp [h1,h2,h3,h4,h5]
 ·have hi:i<4:=AY hk;have h40:=s87 r x hx;rcases (show i=0∨i=1∨i=2∨i=3 by omega) with rfl|rfl|rfl|rfl
  ·refine Ev.of fun n again => ?_;simp only [M4,J86_6,J86_7,vv,reduceCtorEq,reduceAdd,reduceEqDiff,CR];by_cases h1:x.kind=1<;>by_cases h2:x.ses=r.ses<;>simp [h1,h2,AD,Rd.As,Rd.BX,vv,w64,wrap64]
  ·refine Ev.of fun n again => ?_;simp only [M4,J86_4,J86_5,vv,reduceCtorEq,reduceAdd,reduceEqDiff,CR];by_cases h1:r.tot = -1<;>by_cases h2:x.tot=r.tot<;>simp [h1,h2,AD,Rd.As,Rd.BX,vv,w64,wrap64]
  ·refine (inner86 r x hr hx (hI (by omega))).mono fun n h again => ?_;simp only [M4,J86_3,vv,reduceCtorEq,reduceAdd,reduceEqDiff,CR,h];by_cases h1:agree r x<;>simp [h1,AD,Rd.As,Rd.BX,vv,w64,wrap64]
  ·refine h40.mono fun n h again => ?_;simp only [Rcv.enc,Seg.enc,cons_append,nil_append] at h;simp only [M4,vv,reduceCtorEq,reduceAdd,reduceEqDiff,CR,h];by_cases h1:EV r.known [sp x]=0<;>simp [h1,AD,Rd.As,Rd.BX,vv,w64,wrap64]
 ·rcases (show i=0∨0<i by omega) with rfl|h1
  ·simp only at h;split at h
   ·rename_i h2;simp only [decide_eq_true_eq] at h2;exact h2.1
   ·cases h
  ·exact hI h1
 ·simp only [M4,vv,reduceCtorEq,reduceAdd,reduceEqDiff];simp [AD,vv]
end Ab
namespace Ab
open Go
end Ab
namespace Ab
open Go
theorem s89 (es:List (List Tree)) (hl:es.length≤1073741824):AL C 89 [.sl 2 es] [.sl 2 es]:=by
 refine AL.of (fun n=>e89 n _) (Ev.of fun n => ?_);by_cases h:es.length=0
 ·have:es=[]:=eq_nil_of_length_eq_zero h;subst this;simp [AD,My]
 ·rw [AZ h,AZ hl,take_of_length_le (le_refl _)]
def DO (k:Nat):List UInt8:=replicate k 0
def C8 (r:Rcv) (x:Seg):List UInt8:=Ki (Ki (DO x.tot.toNat) 0 (bl r.data)) x.off.toNat (bl x.data)
def FH (r:Rcv) (x:Seg):Seg:=⟨2,r.ses,x.ser,0,x.tot,false,ByteArray.mk #[],Cv r.known [sp x]⟩
def Es (r:Rcv) (x:Seg):Rcv:=⟨r.ses,x.tot,Cv r.known [sp x],mkB (C8 r x)⟩
def zeroR:Rcv:=⟨0,0,[],ByteArray.mk #[]⟩
def L9 (r:Rcv) (x:Seg):Rcv×List Seg×Int:=
 if ¬(D4 r=0∧DN x=0) then (zeroR,[],1) else if DR r x=false then (r,[],0) else (Es r x,if x.chk=true then [FH r x] else [],0)
def hearT (q:Rcv×List Seg×Int):List Tree:=[tI q.1.ses,tI q.1.tot,.sl 2 (q.1.known.map Span.enc),.str q.1.data,.sl 8 (q.2.1.map Seg.enc),tI q.2.2]
theorem F7 {a b:List Span} (h:EV a b=0):D5 a=0∧D5 b=0∧Cv a b=uni a b∧D5 (Cv a b)=0∧∀t,B5 t (Cv a b)↔B5 t a∨B5 t b:=by
 unfold EV at h;split at h
 ·rename_i hc;split at h
  ·omega
  ·rename_i hl;obtain ⟨h1,h2⟩:=OF ((BM _).1 hc.1).2.1 ((BM _).1 hc.2).2.1;have e:Cv a b=uni a b:=by unfold Cv;rw [if_pos hc,if_neg hl]
   refine ⟨hc.1,hc.2,e,?_,by rw [e];exact h2⟩;rw [e,BM];refine ⟨by omega,h1,mem_top h1 fun t m => ?_⟩;rcases (h2 t).1 m with m|m
   ·exact RA ((BM _).1 hc.1).2.2 ((BM _).1 hc.1).2.1 m
   ·exact RA ((BM _).1 hc.2).2.2 ((BM _).1 hc.2).2.1 m
 ·omega
theorem Cm {r:Rcv} {x:Seg}:DR r x=true↔x.kind=1∧x.ses=r.ses∧(r.tot = -1∨x.tot=r.tot)∧agree r x∧EV r.known [sp x]=0:=by unfold DR;rw [decide_eq_true_eq]
theorem Jv {r:Rcv} {x:Seg} (hr:D4 r=0) (hx:DN x=0) (hs:DR r x=true):FI (Cv r.known [sp x]) x.tot∧Cv r.known [sp x]≠[]:=by
 obtain ⟨h1,h2,h3,h4,h5⟩:=Cm.1 hs;obtain ⟨g1,g2,g3,g4,g5,g6,g7⟩:=D3 hx h1;obtain ⟨c1,c2,c3,c4⟩:=CD hr;obtain ⟨u1,u2,u3,u4,u5⟩:=F7 h5;have hW:=Kr hr;have hm:B5 x.off (Cv r.known [sp x]):=(u5 _).2 (.inr (.inl ⟨Int.le_refl _,by show x.off<x.off+x.data.size;omega⟩));refine ⟨K3 ((BM _).1 u4).2.1 fun t m => ?_,fun e=>by rw [e] at hm;exact hm⟩;rcases (u5 t).1 m with m|m
 ·have:=Pm hW m;have h0:r.tot ≠ -1:=fun h0=>by have:=c2.2.1.2 h0;rw [this] at m;exact m
  have:x.tot=r.tot:=by rcases h3 with h|h;exact (h0 h).elim;exact h
  have:(r.data.size:Int)=r.tot:=by rw [c3];unfold Hg;rw [if_neg];rcases c1.2 with h|h<;>omega
  omega
 ·rcases m with m|m
  ·have m1:x.off≤t:=m.1;have m2:t<x.off+x.data.size:=m.2;omega
  ·exact m.elim
theorem UZ {r:Rcv} {x:Seg} (hr:D4 r=0) (hx:DN x=0) (hs:DR r x=true) (hc:x.chk=true):DN (FH r x)=0:=by
 obtain ⟨h1,h2,h3,h4,h5⟩:=Cm.1 hs;obtain ⟨g1,g2,g3,g4,g5,g6,g7,g8,g9⟩:=D3 hx h1;obtain ⟨c1,c2,c3,c4⟩:=CD hr;obtain ⟨u1,u2,u3,u4,u5⟩:=F7 h5;have hn:Bm (FH r x):=by unfold Bm FH;simp only;have:=c1.1;have:=g8 hc;grind
 have hk:Cj (FH r x):=by
  have:inside (Cv r.known [sp x]) x.tot=true:=by unfold inside;rw [decide_eq_true_eq];exact ⟨u4,(Ee u4).2 (Jv hr hx hs).1⟩
  unfold Cj FH;simp only [this];simp;rfl
 unfold DN;rw [if_neg (not_not_intro (by simp [FH])),if_neg (not_not_intro hn),if_neg (not_not_intro hk)]
theorem size_le {r:Rcv} {x:Seg} (hr:D4 r=0) (hx:DN x=0) (hs:DR r x=true):r.data.size≤x.tot.toNat∧(r.data.size=0∨r.data.size=x.tot.toNat):=by
 obtain ⟨h1,h2,h3,h4,h5⟩:=Cm.1 hs;obtain ⟨g1,g2,g3,g4,g5,g6,g7,g8⟩:=D3 hx h1;obtain ⟨c1,c2,c3,c4⟩:=CD hr;unfold Hg at c3;rcases c1.2 with h|h
 ·rw [if_pos (by omega)] at c3;omega
 ·rw [if_neg (by omega)] at c3;have:x.tot=r.tot:=by rcases h3 with h|h<;>omega
  omega
theorem s45 (r:Rcv) (x:Seg):AL C 45 (r.enc++x.enc) (hearT (L9 r x)):=by
 refine AL.of (fun n=>e45 n _ _ _ _ _ _ _ _ _ _ _ _) ?_;simp only [join_eq];refine Ev.rw (s46 r) (fun n h=>by simp only [Rcv.enc] at h;simp only [h,vv,reduceCtorEq,reduceAdd,reduceEqDiff];rfl) ?_;unfold L9;by_cases hr:D4 r=0
 ·simp only [hr,bne_self_eq_false,vv,reduceCtorEq,reduceAdd,reduceEqDiff];refine Ev.rw (s38 x) (fun n h=>by simp only [Seg.enc] at h;simp only [h,vv,reduceCtorEq,reduceAdd,reduceEqDiff];rfl) ?_;by_cases hx:DN x=0
  ·simp only [hx,bne_self_eq_false,Rs,vv,reduceCtorEq,reduceAdd,reduceEqDiff,not_true_eq_false];refine Ev.rw (s86 r x hr hx) (fun n h=>by simp only [Rcv.enc,Seg.enc,cons_append,nil_append] at h;simp only [h,vv,reduceCtorEq,reduceAdd,reduceEqDiff];rfl) ?_;by_cases hs:DR r x=true
   ·simp only [hs,vv,reduceCtorEq,reduceAdd,reduceEqDiff];obtain ⟨h1,h2,h3,h4,h5⟩:=Cm.1 hs;obtain ⟨g1,g2,g3,g4,g5,g6,g7,g8⟩:=D3 hx h1;have hsz:=(size_le hr hx hs).1;refine Ev.rw (s87 r x hx) (fun n h=>by simp only [Rcv.enc,Seg.enc,cons_append,nil_append] at h;simp only [h,vv,reduceCtorEq,reduceAdd,reduceEqDiff];rfl) ?_;have hz:(DO x.tot.toNat).length=x.tot.toNat:=by simp [DO]
    have l1:(Ki (DO x.tot.toNat) 0 (bl r.data)).length=x.tot.toNat:=by rw [GB _ _ _ (by rw [AS,hz];omega),hz]
    have l2:(C8 r x).length=x.tot.toNat:=by unfold C8;rw [GB _ _ _ (by rw [AS,l1];omega),l1]
    have r1:take x.tot.toNat (AP r.data)=(bl r.data).map tb:=by rw [Di,take_of_length_le (by rw [length_map,AS];exact hsz)]
    have r2:take (x.tot.toNat-x.off.toNat) (AP x.data)=(bl x.data).map tb:=by rw [Di,take_of_length_le (by rw [length_map,AS];omega)]
    have r0:replicate x.tot.toNat ([Tree.int IntKind.u8 0]:List Tree)=(DO x.tot.toNat).map tb:=rep_tb _;have r3:A6 (A6 ((DO x.tot.toNat).map tb) 0 ((bl r.data).map tb)) (0+x.off.toNat) ((bl x.data).map tb)=(C8 r x).map tb:=by rw [JL,zero_add,JL];rfl
    have r4:take x.tot.toNat ((C8 r x).map tb)=(C8 r x).map tb:=by rw [take_of_length_le (by rw [length_map,l2];exact le_refl _)]
    have r5:(A6 ((DO x.tot.toNat).map tb) 0 ((bl r.data).map tb)).length=x.tot.toNat:=by rw [JL,length_map,l1]
    simp only [zero_add] at r3;simp only [r0,r1,r2,r3,r4,r5,zero_add,Eb,Fp,vv,reduceCtorEq,reduceAdd,reduceEqDiff];have k1:(0:Int)≤x.tot:=by omega
    have k2:x.tot≤1073741824:=by omega
    have k3:x.off≤(x.tot.toNat:Int):=by omega
    have k4:x.off.toNat<x.tot.toNat∨x.off.toNat=0 :=.inl (by omega);simp only [k1,k2,k3,k4,g3,vv,reduceCtorEq,reduceAdd,reduceEqDiff];by_cases hc:x.chk=true
    ·simp only [hc,vv,reduceCtorEq,reduceAdd,reduceEqDiff];refine Ev.rw (s89 ((Cv r.known [sp x]).map Span.enc) (by have:=Cg (F7 h5).2.2.2.1;rw [length_map];omega)) (fun n h=>by simp only [h,vv,reduceCtorEq,reduceAdd,reduceEqDiff];rfl) ?_;have hcl:=UZ hr hx hs hc;refine (s88 r.ses x.ser x.tot (Cv r.known [sp x])).mono fun n h => ?_;unfold FH at hcl;rw [if_pos hcl] at h;simp only [Seg.enc,cons_append,nil_append] at h;simp only [h,bne_self_eq_false,vv,reduceCtorEq,reduceAdd,reduceEqDiff];rfl
    ·have hc':x.chk=false:=by simpa using hc
     simp only [hc',vv,reduceCtorEq,reduceAdd,reduceEqDiff];exact Ev.of fun n=>rfl
   ·have hs':DR r x=false:=by simpa using hs
    simp only [hs',vv,reduceCtorEq,reduceAdd,reduceEqDiff];exact Ev.of fun n=>rfl
  ·have hb:(DN x != 0)=true:=by simpa using hx
   simp only [hb,hx,Rs,vv,reduceCtorEq,reduceAdd,reduceEqDiff,not_false_eq_true];exact Ev.of fun n=>rfl
 ·have hb:(D4 r != 0)=true:=by simpa using hr
  simp only [hb,hr,Rs,vv,reduceCtorEq,reduceAdd,reduceEqDiff,not_false_eq_true];exact Ev.of fun n=>rfl
end Ab
namespace Ab
open Go
def complete (r:Rcv):Bool:=decide (D4 r=0∧r.known=[⟨0,r.tot⟩])
def LQ (r:Rcv):ByteArray×Int:=if D4 r≠0 then (ByteArray.mk #[],1) else if complete r=false then (ByteArray.mk #[],25) else (r.data,0)
theorem Tk {l:List Span}:l.length=1↔∃x,l=[x]:=by
 constructor
 ·intro h
  match l,h with
  |[x],_=>exact ⟨x,rfl⟩
 ·rintro ⟨x,rfl⟩;rfl
theorem s47 (r:Rcv):AL C 47 r.enc [.bool (complete r)]:=by
 refine AL.of (fun n=>e47 n _ _ _ _) ?_;refine (s46 r).mono fun n h => ?_;simp only [Rcv.enc] at h;simp only [h,vv,reduceCtorEq,reduceAdd,reduceEqDiff];unfold complete;by_cases hr:D4 r=0
 ·simp only [hr,beq_self_eq_true,vv,reduceCtorEq,reduceAdd,reduceEqDiff];by_cases hl:r.known.length=1
  ·obtain ⟨x,hx⟩:=Tk.1 hl;simp only [hx,vv,reduceCtorEq,reduceAdd,reduceEqDiff,getElem?_cons_zero,Span.enc];obtain ⟨a,b⟩:=x;simp only [AD,List.cons.injEq,and_true,Span.mk.injEq];by_cases h1:a=0<;>by_cases h2:b=r.tot<;>simp [h1,h2]
  ·have h1:((r.known.length:Int)==1)=false:=by simpa using fun h=>hl (by omega)
   have h2:¬r.known=[⟨0,r.tot⟩]:=fun h=>hl (by rw [h];rfl);simp only [h1,h2,vv,reduceCtorEq,reduceAdd,reduceEqDiff]
 ·have h1:(D4 r==0)=false:=by simpa using hr
  simp only [h1,hr,vv,reduceCtorEq,reduceAdd,reduceEqDiff]
theorem s15 (r:Rcv):AL C 15 r.enc [.str (LQ r).1,tI (LQ r).2]:=by
 refine AL.of (fun n=>e15 n _ _ _ _) ?_;refine ((s46 r).and (s47 r)).mono fun n h => ?_;obtain ⟨h,h'⟩:=h;simp only [Rcv.enc] at h h';simp only [h,h',vv,reduceCtorEq,reduceAdd,reduceEqDiff];unfold LQ;by_cases hr:D4 r=0
 ·by_cases hc:complete r=true
  ·simp [hr,hc,AD]
  ·simp [hr,hc,AD]
 ·simp [hr,AD,bne]
def newR (n:Int):Rcv×Int:=if 0≤n∧n≤1099511627776 then (⟨n,-1,[],ByteArray.mk #[]⟩,0) else (zeroR,2)
theorem s44 (n:Int):AL C 44 [tI n] ((newR n).1.enc++[tI (newR n).2]):=by
 refine AL.of (fun m=>e44 m _) (Ev.of fun m => ?_);unfold newR;simp only [AD,decide_eq_true_eq];by_cases h1:n<0
 ·rw [if_pos h1,if_neg (by omega)];rfl
 ·by_cases h2:n>1099511627776
  ·rw [if_neg h1,if_pos h2,if_neg (by omega)];rfl
  ·rw [if_neg h1,if_neg h2,if_pos (by omega)];rfl
end Ab
