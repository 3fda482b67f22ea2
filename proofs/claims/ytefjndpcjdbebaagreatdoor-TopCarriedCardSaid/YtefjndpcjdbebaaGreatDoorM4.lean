/- A part of the proof: see the last text. -/
import Derived.Test.YtefjndpcjdbebaaGreatDoorM3
set_option linter.unusedVariables false
set_option linter.unusedSimpArgs false
open Int (tdiv tmod toNat)
open List (drop length replicate take)
set_option maxRecDepth 100000
namespace Ab
open Go Go.Proofs
noncomputable def PZ (n:Nat) (a10:List (List Tree)) (p22:List AV×Heap) (again23:(List AV×Heap)→Option (List Tree)):Option (List Tree):=
 cnd (decide (vI p22 0<((length a10:Nat):Int))=true) (cnd (3=3∧(0:Int)≤vI p22 0) (Option.bind a10[toNat (vI p22 0)]? fun y26=>cnd (okS y26 2) (cnd (decide
 (((ByteArray.size (gS y26 2):Nat):Int)>200)=true) (cnd (3=3∧(0:Int)≤vI p22 0) (Option.bind a10[toNat (vI p22 0)]? fun y27=>cnd (okS y27 2) (cnd (decide
 (((ByteArray.size (gS y27 2):Nat):Int)≤1024)=true) (some [.bool true]) (cnd (3=3∧(0:Int)≤vI p22 0) (Option.bind a10[toNat (vI p22 0)]? fun y28=>cnd (okS y28 2)
 (cnd (decide (((ByteArray.size (gS y28 2):Nat):Int)>1034)=true) (some [.bool true]) (again23 ([.t (tI (w64 ((vI p22 0)+1)))],[]))) none) none)) none) none) (cnd (3 =
 3∧(0:Int)≤vI p22 0) (Option.bind a10[toNat (vI p22 0)]? fun y29=>cnd (okS y29 2) (cnd (decide (((ByteArray.size (gS y29 2):Nat):Int)>1034)=true) (some [.bool true])
 (again23 ([.t (tI (w64 ((vI p22 0)+1)))],[]))) none) none)) none) none) (some [.bool false])
theorem e4 (n:Nat) (a0:Int) (a1:Int) (a2:Int) (a3:Int) (a4:Int) (a5:Int) (a6:Int) (a7:Int) (a8:Int) (a9:Int) (a10:List (List Tree)) (a11:ByteArray):AB C (n+1) 4 [tI a0,tI a1,tI a2,tI a3,tI a4,tI a5,tI a6,tI a7,tI a8,tI a9,.sl 3 a10,.str a11]=
 cnd (decide (((length a10:Nat):Int)>12)=true) (some [.bool true]) (cnd (decide (((ByteArray.size a11:Nat):Int)>200)=true) (cnd (decide (((ByteArray.size a11:Nat):Int)≤
 (4096:Int))=true) (some [.bool true]) (cnd (decide (((ByteArray.size a11:Nat):Int)>4106)=true) (some [.bool true]) (AH (fun (p22:List AV×Heap) (again23:_→Option (List
 Tree))=>PZ n a10 p22 again23) n ([.t (tI 0)],[])))) (cnd (decide (((ByteArray.size a11:Nat):Int)>4106)=true) (some [.bool true]) (AH (fun (p22:List AV×Heap)
 (again23:_→Option (List Tree))=>PZ n a10 p22 again23) n ([.t (tI 0)],[])))):=by kernel_rfl
noncomputable def VE (n:Nat) (a0:Int) (a1:Int) (a2:Int) (a3:Int) (a4:Int) (a5:Int) (a6:Int) (a7:Int) (a8:Int) (a9:Int) (a10:List (List Tree)) (a11:ByteArray) (p16:List AV×Heap):Option (List Tree):=
 cnd (vB p16 0=true) (some [tI 8]) (Option.bind (AB C n 24 [tI a0,tI a1,tI a2,tI a3,tI a4,tI a5,tI a6,tI a7,tI a8,tI a9,.sl 3 a10,.str a11]) fun y18=>cnd
 (length y18=1) (cnd (okB y18 0) (cnd ((!(gB y18 0))=true) (some [tI 1]) (Option.bind (AB C n 25 [.sl 3 a10]) fun y19=>cnd (length y19=1) (cnd
 (okI y19 0) (cnd (((gI y19 0) != 0)=true) (some [tI (gI y19 0)]) (cnd (decide (((ByteArray.size a11:Nat):Int)>4096)=true) (some [tI 4]) (cnd (decide (a4>0)=true) (cnd
 ((((ByteArray.size a11:Nat):Int)==0)=true) (some [tI 10]) (cnd (decide (((ByteArray.size a11:Nat):Int)>w64 (a4-a3))=true) (some [tI 10]) (some [tI 0]))) (some [tI
 (0:Int)])))) none) none)) none) none)
noncomputable def TD (n:Nat) (a0:Int) (a1:Int) (a2:Int) (a3:Int) (a4:Int) (a5:Int) (a6:Int) (a7:Int) (a8:Int) (a9:Int) (a10:List (List Tree)) (a11:ByteArray) (p14:List AV×Heap):Option (List Tree):=
 cnd (vB p14 0=true) (some [tI 2]) (join (fun (p16:List AV×Heap)=>VE n a0 a1 a2 a3 a4 a5 a6 a7 a8 a9 a10 a11 p16) fun (again17:_→Option (List Tree))=>cnd (decide (a8<0)=
 true) (again17 ([.t (.bool true)],[])) (again17 ([.t (.bool (decide (a8>2)))],[])))
theorem e5 (n:Nat) (a0:Int) (a1:Int) (a2:Int) (a3:Int) (a4:Int) (a5:Int) (a6:Int) (a7:Int) (a8:Int) (a9:Int) (a10:List (List Tree)) (a11:ByteArray):AB C (n+1) 5 [tI a0,tI a1,tI a2,tI a3,tI a4,tI a5,tI a6,tI a7,tI a8,tI a9,.sl 3 a10,.str a11]=
 Option.bind (AB C n 22 [tI a0,tI a1,tI a2,tI a3,tI a4]) fun y12=>cnd (length y12=1) (cnd (okB y12 0) (cnd ((!(gB y12 0))=true) (some [tI 2]) (Option.bind (AB C n
 23 [tI a5,tI a6]) fun y13=>cnd (length y13=1) (cnd (okI y13 0) (cnd (((gI y13 0) != 0)=true) (some [tI (gI y13 0)]) (join (fun (p14:List AV×Heap)=>TD n a0 a1 a2
 a3 a4 a5 a6 a7 a8 a9 a10 a11 p14) fun (again15:_→Option (List Tree))=>cnd (decide (a7<1)=true) (again15 ([.t (.bool true)],[])) (again15 ([.t (.bool (decide (a7>w64
 ((1099511627776:Int)-a1))))],[])))) none) none)) none) none:=by kernel_rfl
noncomputable def U1 (n:Nat)  (p14:List AV×Heap) (again15:(List AV×Heap)→Option (List Tree)):Option (List Tree):=
 cnd (decide (vI p14 1<10)=true) (cnd ((0:Int)≤vI p14 1∧vI p14 1<10) (cnd (vI p14 1=((9:Nat):Int)) (Option.bind (AB C n 32 [tI (cI p14 0 9)]) fun y16=>cnd
 (length y16=2) (cnd (okS y16 0) (cnd (okI y16 1) (cnd (length (AP (gS y16 0))=0∧(A1 p14 0)+(AR p14 0)<length (oEs p14 1)) (cnd (AF p14 1=Ar p14 0)
 (again15 ([.sref 1 (Ar p14 0) (A1 p14 0) (AR p14 0),.t (tI (w64 ((vI p14 1)+1)))],[.box [.t (tI (cI p14 0 0)),.t (tI (cI p14 0 1)),.t (tI (cI p14 0 2)),.t (tI
 (cI p14 0 3)),.t (tI (cI p14 0 4)),.t (tI (cI p14 0 5)),.t (tI (cI p14 0 6)),.t (tI (cI p14 0 7)),.t (tI (cI p14 0 8)),.t (tI (cI p14 0 9)),.t (.sl 3 (cL p14 0 10)),
 .t (.str (cS p14 0 11))],.row false (AF p14 1) 1 (oEs p14 1)])) none) (cnd (AF p14 1=Ar p14 0∧(1=1∨1=0)∧(A1 p14 0)+(AR p14 0)≤
 length (oEs p14 1)∧(AR p14 0)+(length (AP (gS y16 0)))≤1073741824) (again15 ([.sref 1 ((Ar p14 0)+1) 0 ((AR p14 0)+(length (AP (gS y16
 0)))),.t (tI (w64 ((vI p14 1)+1)))],[.box [.t (tI (cI p14 0 0)),.t (tI (cI p14 0 1)),.t (tI (cI p14 0 2)),.t (tI (cI p14 0 3)),.t (tI (cI p14 0 4)),.t (tI (cI p14 0
 5)),.t (tI (cI p14 0 6)),.t (tI (cI p14 0 7)),.t (tI (cI p14 0 8)),.t (tI (cI p14 0 9)),.t (.sl 3 (cL p14 0 10)),.t (.str (cS p14 0 11))],.row false ((Ar p14 0)
 + 1) 1 ((take (AR p14 0) (drop (A1 p14 0) (oEs p14 1)))++(AP (gS y16 0)))])) none)) none) none) none) (cnd (vI p14 1=((8:Nat):Int)) (Option.bind (AB C n 32
 [tI (cI p14 0 8)]) fun y17=>cnd (length y17=2) (cnd (okS y17 0) (cnd (okI y17 1) (cnd (length (AP (gS y17 0))=0∧(A1 p14 0)+(AR p14 0)<length (oEs p14 1))
 (cnd (AF p14 1=Ar p14 0) (again15 ([.sref 1 (Ar p14 0) (A1 p14 0) (AR p14 0),.t (tI (w64 ((vI p14 1)+1)))],[.box [.t (tI (cI p14 0 0)),.t (tI (cI p14 0 1)),
 .t (tI (cI p14 0 2)),.t (tI (cI p14 0 3)),.t (tI (cI p14 0 4)),.t (tI (cI p14 0 5)),.t (tI (cI p14 0 6)),.t (tI (cI p14 0 7)),.t (tI (cI p14 0 8)),.t (tI (cI p14 0 9)),AV.t
 (Tree.sl 3 (cL p14 0 10)),.t (.str (cS p14 0 11))],.row false (AF p14 1) 1 (oEs p14 1)])) none) (cnd (AF p14 1=Ar p14 0∧(1=1∨1=0)∧
 (A1 p14 0)+(AR p14 0)≤length (oEs p14 1)∧(AR p14 0)+(length (AP (gS y17 0)))≤1073741824) (again15 ([.sref 1 ((Ar p14 0)+1) 0 ((AR p14 0) +
 (length (AP (gS y17 0)))),.t (tI (w64 ((vI p14 1)+1)))],[.box [.t (tI (cI p14 0 0)),.t (tI (cI p14 0 1)),.t (tI (cI p14 0 2)),.t (tI (cI p14 0 3)),.t (tI (cI p14
 0 4)),.t (tI (cI p14 0 5)),.t (tI (cI p14 0 6)),.t (tI (cI p14 0 7)),.t (tI (cI p14 0 8)),.t (tI (cI p14 0 9)),.t (.sl 3 (cL p14 0 10)),.t (.str (cS p14 0 11))],
 .row false ((Ar p14 0)+1) 1 ((take (AR p14 0) (drop (A1 p14 0) (oEs p14 1)))++(AP (gS y17 0)))])) none)) none) none) none) (cnd (vI p14 1=((7:Nat):Int))
 (Option.bind (AB C n 32 [tI (cI p14 0 7)]) fun y18=>cnd (length y18=2) (cnd (okS y18 0) (cnd (okI y18 1) (cnd (length (AP (gS y18 0))=0∧(A1 p14 0)+(AR
 p14 0)<length (oEs p14 1)) (cnd (AF p14 1=Ar p14 0) (again15 ([.sref 1 (Ar p14 0) (A1 p14 0) (AR p14 0),.t (tI (w64 ((vI p14 1)+1)))],[.box [.t (tI (cI p14
 0 0)),.t (tI (cI p14 0 1)),.t (tI (cI p14 0 2)),.t (tI (cI p14 0 3)),.t (tI (cI p14 0 4)),.t (tI (cI p14 0 5)),.t (tI (cI p14 0 6)),.t (tI (cI p14 0 7)),.t (tI (cI p14 0 8)),
 .t (tI (cI p14 0 9)),.t (.sl 3 (cL p14 0 10)),.t (.str (cS p14 0 11))],.row false (AF p14 1) 1 (oEs p14 1)])) none) (cnd (AF p14 1=Ar p14 0∧(1 =
 1∨1=0)∧(A1 p14 0)+(AR p14 0)≤length (oEs p14 1)∧(AR p14 0)+(length (AP (gS y18 0)))≤1073741824) (again15 ([.sref 1 ((Ar p14 0) +
 1) 0 ((AR p14 0)+(length (AP (gS y18 0)))),.t (tI (w64 ((vI p14 1)+1)))],[.box [.t (tI (cI p14 0 0)),.t (tI (cI p14 0 1)),.t (tI (cI p14 0 2)),AV.t
 (tI (cI p14 0 3)),.t (tI (cI p14 0 4)),.t (tI (cI p14 0 5)),.t (tI (cI p14 0 6)),.t (tI (cI p14 0 7)),.t (tI (cI p14 0 8)),.t (tI (cI p14 0 9)),.t (.sl 3 (cL p14 0 10)),
 .t (.str (cS p14 0 11))],.row false ((Ar p14 0)+1) 1 ((take (AR p14 0) (drop (A1 p14 0) (oEs p14 1)))++(AP (gS y18 0)))])) none)) none) none) none) (cnd
 (vI p14 1=((6:Nat):Int)) (Option.bind (AB C n 32 [tI (cI p14 0 6)]) fun y19=>cnd (length y19=2) (cnd (okS y19 0) (cnd (okI y19 1) (cnd (length (AP (gS y19 0))=
 0∧(A1 p14 0)+(AR p14 0)<length (oEs p14 1)) (cnd (AF p14 1=Ar p14 0) (again15 ([.sref 1 (Ar p14 0) (A1 p14 0) (AR p14 0),.t (tI (w64 ((vI p14 1) +
 (1:Int))))],[.box [.t (tI (cI p14 0 0)),.t (tI (cI p14 0 1)),.t (tI (cI p14 0 2)),.t (tI (cI p14 0 3)),.t (tI (cI p14 0 4)),.t (tI (cI p14 0 5)),.t (tI (cI p14 0 6)),.t (tI
 (cI p14 0 7)),.t (tI (cI p14 0 8)),.t (tI (cI p14 0 9)),.t (.sl 3 (cL p14 0 10)),.t (.str (cS p14 0 11))],.row false (AF p14 1) 1 (oEs p14 1)])) none) (cnd (AF
 p14 1=Ar p14 0∧(1=1∨1=0)∧(A1 p14 0)+(AR p14 0)≤length (oEs p14 1)∧(AR p14 0)+(length (AP (gS y19 0)))≤1073741824) (again15
 ([.sref 1 ((Ar p14 0)+1) 0 ((AR p14 0)+(length (AP (gS y19 0)))),.t (tI (w64 ((vI p14 1)+1)))],[.box [.t (tI (cI p14 0 0)),.t (tI (cI p14 0
 1)),.t (tI (cI p14 0 2)),.t (tI (cI p14 0 3)),.t (tI (cI p14 0 4)),.t (tI (cI p14 0 5)),.t (tI (cI p14 0 6)),.t (tI (cI p14 0 7)),.t (tI (cI p14 0 8)),.t (tI (cI p14 0 9)),
 .t (.sl 3 (cL p14 0 10)),.t (.str (cS p14 0 11))],.row false ((Ar p14 0)+1) 1 ((take (AR p14 0) (drop (A1 p14 0) (oEs p14 1)))++(AP (gS y19
 0)))])) none)) none) none) none) (cnd (vI p14 1=((5:Nat):Int)) (Option.bind (AB C n 32 [tI (cI p14 0 5)]) fun y20=>cnd (length y20=2) (cnd (okS y20 0) (cnd (okI y20 1) (cnd
 (length (AP (gS y20 0))=0∧(A1 p14 0)+(AR p14 0)<length (oEs p14 1)) (cnd (AF p14 1=Ar p14 0) (again15 ([.sref 1 (Ar p14 0) (A1 p14 0) (AR p14 0),
 .t (tI (w64 ((vI p14 1)+1)))],[.box [.t (tI (cI p14 0 0)),.t (tI (cI p14 0 1)),.t (tI (cI p14 0 2)),.t (tI (cI p14 0 3)),.t (tI (cI p14 0 4)),.t (tI (cI p14 0 5)),AV.t
 (tI (cI p14 0 6)),.t (tI (cI p14 0 7)),.t (tI (cI p14 0 8)),.t (tI (cI p14 0 9)),.t (.sl 3 (cL p14 0 10)),.t (.str (cS p14 0 11))],.row false (AF p14 1) 1
 (oEs p14 1)])) none) (cnd (AF p14 1=Ar p14 0∧(1=1∨1=0)∧(A1 p14 0)+(AR p14 0)≤length (oEs p14 1)∧(AR p14 0)+(length (AP (gS y20 0)))
 ≤1073741824) (again15 ([.sref 1 ((Ar p14 0)+1) 0 ((AR p14 0)+(length (AP (gS y20 0)))),.t (tI (w64 ((vI p14 1)+1)))],[.box [.t (tI (cI p14
 0 0)),.t (tI (cI p14 0 1)),.t (tI (cI p14 0 2)),.t (tI (cI p14 0 3)),.t (tI (cI p14 0 4)),.t (tI (cI p14 0 5)),.t (tI (cI p14 0 6)),.t (tI (cI p14 0 7)),.t (tI (cI p14 0 8)),
 .t (tI (cI p14 0 9)),.t (.sl 3 (cL p14 0 10)),.t (.str (cS p14 0 11))],.row false ((Ar p14 0)+1) 1 ((take (AR p14 0) (drop (A1 p14 0) (oEs p14
 1)))++(AP (gS y20 0)))])) none)) none) none) none) (cnd (vI p14 1=((4:Nat):Int)) (Option.bind (AB C n 32 [tI (cI p14 0 4)]) fun y21=>cnd (length y21=2) (cnd (okS y21 0)
 (cnd (okI y21 1) (cnd (length (AP (gS y21 0))=0∧(A1 p14 0)+(AR p14 0)<length (oEs p14 1)) (cnd (AF p14 1=Ar p14 0) (again15 ([.sref 1 (Ar p14 0) (A1
 p14 0) (AR p14 0),.t (tI (w64 ((vI p14 1)+1)))],[.box [.t (tI (cI p14 0 0)),.t (tI (cI p14 0 1)),.t (tI (cI p14 0 2)),.t (tI (cI p14 0 3)),.t (tI (cI p14 0 4)),AV.t
 (tI (cI p14 0 5)),.t (tI (cI p14 0 6)),.t (tI (cI p14 0 7)),.t (tI (cI p14 0 8)),.t (tI (cI p14 0 9)),.t (.sl 3 (cL p14 0 10)),.t (.str (cS p14 0 11))],.row false
 (AF p14 1) 1 (oEs p14 1)])) none) (cnd (AF p14 1=Ar p14 0∧(1=1∨1=0)∧(A1 p14 0)+(AR p14 0)≤length (oEs p14 1)∧(AR p14 0)+(length
 (AP (gS y21 0)))≤1073741824) (again15 ([.sref 1 ((Ar p14 0)+1) 0 ((AR p14 0)+(length (AP (gS y21 0)))),.t (tI (w64 ((vI p14 1)+1)))],
 [.box [.t (tI (cI p14 0 0)),.t (tI (cI p14 0 1)),.t (tI (cI p14 0 2)),.t (tI (cI p14 0 3)),.t (tI (cI p14 0 4)),.t (tI (cI p14 0 5)),.t (tI (cI p14 0 6)),.t (tI (cI p14 0
 7)),.t (tI (cI p14 0 8)),.t (tI (cI p14 0 9)),.t (.sl 3 (cL p14 0 10)),.t (.str (cS p14 0 11))],.row false ((Ar p14 0)+1) 1 ((take (AR p14 0)
 (drop (A1 p14 0) (oEs p14 1)))++(AP (gS y21 0)))])) none)) none) none) none) (cnd (vI p14 1=((3:Nat):Int)) (Option.bind (AB C n 32 [tI (cI p14 0 3)]) fun y22=>cnd
 (length y22=2) (cnd (okS y22 0) (cnd (okI y22 1) (cnd (length (AP (gS y22 0))=0∧(A1 p14 0)+(AR p14 0)<length (oEs p14 1)) (cnd (AF p14 1=Ar p14 0)
 (again15 ([.sref 1 (Ar p14 0) (A1 p14 0) (AR p14 0),.t (tI (w64 ((vI p14 1)+1)))],[.box [.t (tI (cI p14 0 0)),.t (tI (cI p14 0 1)),.t (tI (cI p14 0 2)),.t (tI
 (cI p14 0 3)),.t (tI (cI p14 0 4)),.t (tI (cI p14 0 5)),.t (tI (cI p14 0 6)),.t (tI (cI p14 0 7)),.t (tI (cI p14 0 8)),.t (tI (cI p14 0 9)),.t (.sl 3 (cL p14 0 10)),
 .t (.str (cS p14 0 11))],.row false (AF p14 1) 1 (oEs p14 1)])) none) (cnd (AF p14 1=Ar p14 0∧(1=1∨1=0)∧(A1 p14 0)+(AR p14 0)≤
 length (oEs p14 1)∧(AR p14 0)+(length (AP (gS y22 0)))≤1073741824) (again15 ([.sref 1 ((Ar p14 0)+1) 0 ((AR p14 0)+(length (AP (gS y22
 0)))),.t (tI (w64 ((vI p14 1)+1)))],[.box [.t (tI (cI p14 0 0)),.t (tI (cI p14 0 1)),.t (tI (cI p14 0 2)),.t (tI (cI p14 0 3)),.t (tI (cI p14 0 4)),.t (tI (cI p14 0
 5)),.t (tI (cI p14 0 6)),.t (tI (cI p14 0 7)),.t (tI (cI p14 0 8)),.t (tI (cI p14 0 9)),.t (.sl 3 (cL p14 0 10)),.t (.str (cS p14 0 11))],.row false ((Ar p14 0)
 + 1) 1 ((take (AR p14 0) (drop (A1 p14 0) (oEs p14 1)))++(AP (gS y22 0)))])) none)) none) none) none) (cnd (vI p14 1=((2:Nat):Int)) (Option.bind (AB C n 32
 [tI (cI p14 0 2)]) fun y23=>cnd (length y23=2) (cnd (okS y23 0) (cnd (okI y23 1) (cnd (length (AP (gS y23 0))=0∧(A1 p14 0)+(AR p14 0)<length (oEs p14 1))
 (cnd (AF p14 1=Ar p14 0) (again15 ([.sref 1 (Ar p14 0) (A1 p14 0) (AR p14 0),.t (tI (w64 ((vI p14 1)+1)))],[.box [.t (tI (cI p14 0 0)),.t (tI (cI p14 0 1)),
 .t (tI (cI p14 0 2)),.t (tI (cI p14 0 3)),.t (tI (cI p14 0 4)),.t (tI (cI p14 0 5)),.t (tI (cI p14 0 6)),.t (tI (cI p14 0 7)),.t (tI (cI p14 0 8)),.t (tI (cI p14 0 9)),AV.t
 (Tree.sl 3 (cL p14 0 10)),.t (.str (cS p14 0 11))],.row false (AF p14 1) 1 (oEs p14 1)])) none) (cnd (AF p14 1=Ar p14 0∧(1=1∨1=0)∧
 (A1 p14 0)+(AR p14 0)≤length (oEs p14 1)∧(AR p14 0)+(length (AP (gS y23 0)))≤1073741824) (again15 ([.sref 1 ((Ar p14 0)+1) 0 ((AR p14 0) +
 (length (AP (gS y23 0)))),.t (tI (w64 ((vI p14 1)+1)))],[.box [.t (tI (cI p14 0 0)),.t (tI (cI p14 0 1)),.t (tI (cI p14 0 2)),.t (tI (cI p14 0 3)),.t (tI (cI p14
 0 4)),.t (tI (cI p14 0 5)),.t (tI (cI p14 0 6)),.t (tI (cI p14 0 7)),.t (tI (cI p14 0 8)),.t (tI (cI p14 0 9)),.t (.sl 3 (cL p14 0 10)),.t (.str (cS p14 0 11))],
 .row false ((Ar p14 0)+1) 1 ((take (AR p14 0) (drop (A1 p14 0) (oEs p14 1)))++(AP (gS y23 0)))])) none)) none) none) none) (cnd (vI p14 1=((1:Nat):Int))
 (Option.bind (AB C n 32 [tI (cI p14 0 1)]) fun y24=>cnd (length y24=2) (cnd (okS y24 0) (cnd (okI y24 1) (cnd (length (AP (gS y24 0))=0∧(A1 p14 0)+(AR
 p14 0)<length (oEs p14 1)) (cnd (AF p14 1=Ar p14 0) (again15 ([.sref 1 (Ar p14 0) (A1 p14 0) (AR p14 0),.t (tI (w64 ((vI p14 1)+1)))],[.box [.t (tI (cI p14
 0 0)),.t (tI (cI p14 0 1)),.t (tI (cI p14 0 2)),.t (tI (cI p14 0 3)),.t (tI (cI p14 0 4)),.t (tI (cI p14 0 5)),.t (tI (cI p14 0 6)),.t (tI (cI p14 0 7)),.t (tI (cI p14 0 8)),
 .t (tI (cI p14 0 9)),.t (.sl 3 (cL p14 0 10)),.t (.str (cS p14 0 11))],.row false (AF p14 1) 1 (oEs p14 1)])) none) (cnd (AF p14 1=Ar p14 0∧(1 =
 1∨1=0)∧(A1 p14 0)+(AR p14 0)≤length (oEs p14 1)∧(AR p14 0)+(length (AP (gS y24 0)))≤1073741824) (again15 ([.sref 1 ((Ar p14 0) +
 1) 0 ((AR p14 0)+(length (AP (gS y24 0)))),.t (tI (w64 ((vI p14 1)+1)))],[.box [.t (tI (cI p14 0 0)),.t (tI (cI p14 0 1)),.t (tI (cI p14 0 2)),AV.t
 (tI (cI p14 0 3)),.t (tI (cI p14 0 4)),.t (tI (cI p14 0 5)),.t (tI (cI p14 0 6)),.t (tI (cI p14 0 7)),.t (tI (cI p14 0 8)),.t (tI (cI p14 0 9)),.t (.sl 3 (cL p14 0 10)),
 .t (.str (cS p14 0 11))],.row false ((Ar p14 0)+1) 1 ((take (AR p14 0) (drop (A1 p14 0) (oEs p14 1)))++(AP (gS y24 0)))])) none)) none) none) none) (cnd
 (vI p14 1=((0:Nat):Int)) (Option.bind (AB C n 32 [tI (cI p14 0 0)]) fun y25=>cnd (length y25=2) (cnd (okS y25 0) (cnd (okI y25 1) (cnd (length (AP (gS y25 0))=
 0∧(A1 p14 0)+(AR p14 0)<length (oEs p14 1)) (cnd (AF p14 1=Ar p14 0) (again15 ([.sref 1 (Ar p14 0) (A1 p14 0) (AR p14 0),.t (tI (w64 ((vI p14 1) +
 (1:Int))))],[.box [.t (tI (cI p14 0 0)),.t (tI (cI p14 0 1)),.t (tI (cI p14 0 2)),.t (tI (cI p14 0 3)),.t (tI (cI p14 0 4)),.t (tI (cI p14 0 5)),.t (tI (cI p14 0 6)),.t (tI
 (cI p14 0 7)),.t (tI (cI p14 0 8)),.t (tI (cI p14 0 9)),.t (.sl 3 (cL p14 0 10)),.t (.str (cS p14 0 11))],.row false (AF p14 1) 1 (oEs p14 1)])) none) (cnd (AF
 p14 1=Ar p14 0∧(1=1∨1=0)∧(A1 p14 0)+(AR p14 0)≤length (oEs p14 1)∧(AR p14 0)+(length (AP (gS y25 0)))≤1073741824) (again15
 ([.sref 1 ((Ar p14 0)+1) 0 ((AR p14 0)+(length (AP (gS y25 0)))),.t (tI (w64 ((vI p14 1)+1)))],[.box [.t (tI (cI p14 0 0)),.t (tI (cI p14 0
 1)),.t (tI (cI p14 0 2)),.t (tI (cI p14 0 3)),.t (tI (cI p14 0 4)),.t (tI (cI p14 0 5)),.t (tI (cI p14 0 6)),.t (tI (cI p14 0 7)),.t (tI (cI p14 0 8)),.t (tI (cI p14 0 9)),
 .t (.sl 3 (cL p14 0 10)),.t (.str (cS p14 0 11))],.row false ((Ar p14 0)+1) 1 ((take (AR p14 0) (drop (A1 p14 0) (oEs p14 1)))++(AP (gS y25
 0)))])) none)) none) none) none) none)))))))))) none) (Option.bind (AB C n 33 [.sl 3 (cL p14 0 10)]) fun y26=>cnd (length y26=2) (cnd (okS y26 0) (cnd (okI y26 1)
 (Option.bind (AB C n 30 [.str (cS p14 0 11)]) fun y27=>cnd (length y27=2) (cnd (okS y27 0) (cnd (okI y27 1) (cnd (AF p14 1=Ar p14 0∧(1=1∨1 =
 0)) (cnd (DU (take (AR p14 0) (drop (A1 p14 0) (oEs p14 1)))=true) (cnd ((ByteArray.size (bytesOf (take (AR p14 0) (drop (A1 p14 0) (oEs p14 1))))) +
 (ByteArray.size (gS y26 0))≤9223372036854775807) (cnd ((ByteArray.size ((bytesOf (take (AR p14 0) (drop (A1 p14 0) (oEs p14 1))))++(gS y26 0)))+(ByteArray.size (gS y27 0))≤
 9223372036854775807) (Option.bind (AB C n 34 [.str (((bytesOf (take (AR p14 0) (drop (A1 p14 0) (oEs p14 1))))++(gS y26 0))++(gS y27 0))]) fun y28=>cnd
 (length y28=2) (cnd (okS y28 0) (cnd (okI y28 1) (some [.str (gS y28 0),tI (gI y28 1)]) none) none) none) none) none) none) none) none) none) none) none) none) none)
theorem e7 (n:Nat) (a0:Int) (a1:Int) (a2:Int) (a3:Int) (a4:Int) (a5:Int) (a6:Int) (a7:Int) (a8:Int) (a9:Int) (a10:List (List Tree)) (a11:ByteArray):AB C (n+1) 7 [tI a0,tI a1,tI a2,tI a3,tI a4,tI a5,tI a6,tI a7,tI a8,tI a9,.sl 3 a10,.str a11]=
 Option.bind (AB C n 29 [tI a0,tI a1,tI a2,tI a3,tI a4,tI a5,tI a6,tI a7,tI a8,tI a9,.sl 3 a10,.str a11]) fun y12=>cnd (length y12=1) (cnd (okI y12 0)
 (cnd (((gI y12 0) != 0)=true) (some [.str (ByteArray.mk #[]),tI (gI y12 0)]) (Option.bind (AB C n 30 [.str (ByteArray.mk #[77,66,49])]) fun y13=>cnd (length y13 =
 2) (cnd (okS y13 0) (cnd (okI y13 1) (AH (fun (p14:List AV×Heap) (again15:_→Option (List Tree))=>U1 n p14 again15) n ([.sref 1 0 0 (ByteArray.size (gS y13
 0)),.t (tI 0)],[.box [.t (tI a0),.t (tI a1),.t (tI a2),.t (tI a3),.t (tI a4),.t (tI a5),.t (tI a6),.t (tI a7),.t (tI a8),.t (tI a9),.t (.sl 3
 a10),.t (.str a11)],.row false 0 1 (AP (gS y13 0))])) none) none) none)) none) none:=by kernel_rfl
noncomputable def Uz (n:Nat) (y11:List Tree) (a2:ByteArray) (a0:Int) (again10:(List AV×Heap)→Option (List Tree)) (p9:List AV×Heap) (p12:List AV×Heap) (again13:(List AV×Heap)→Option (List Tree)):Option (List Tree):=
 cnd (decide (vI p12 0<gI y11 1)=true) (cnd ((0:Int)≤(if w64 ((w64 ((w64 (tdiv (vI p12 0) (16:Int)))+1))*16)<gI y11 1 then w64 ((w64 ((w64 (tdiv (vI p12 0) (16:Int))) +
 (1:Int)))*16) else gI y11 1)∧(if w64 ((w64 ((w64 (tdiv (vI p12 0) (16:Int)))+1))*16)<gI y11 1 then w64 ((w64 ((w64 (tdiv (vI p12 0) (16:Int)))+1)) *
 (16:Int)) else gI y11 1)≤((ByteArray.size a2:Nat):Int)) (cnd ((0:Int)≤vI p12 0∧vI p12 0≤((toNat (if w64 ((w64 ((w64 (tdiv (vI p12 0) (16:Int)))+1))*16)<gI y11 1 then
 w64 ((w64 ((w64 (tdiv (vI p12 0) (16:Int)))+1))*16) else gI y11 1):Nat):Int)) (cnd (AF p12 0=AJ p12 1 0∧(8=8∨8=0)∧(AK p12 1 0)+(AI p12
 1 0)≤length (oEs p12 0)∧(AI p12 1 0)+1≤1073741824) (again13 ([.t (tI (if w64 ((w64 ((w64 (tdiv (vI p12 0) (16:Int)))+1))*16)<gI y11 1 then w64 ((w64
 ((w64 (tdiv (vI p12 0) (16:Int)))+1))*16) else gI y11 1))],[.row false ((AJ p12 1 0)+1) 8 ((take (AI p12 1 0) (drop (AK p12 1 0) (oEs p12 0))) ++
 [[tI 1,tI a0,tI 0,tI (vI p12 0),tI ((ByteArray.size a2:Nat):Int),.bool false,.str (ByteArray.extract a2 (toNat (vI p12 0)) (toNat (if w64 ((w64 ((w64 (tdiv (vI
 p12 0) (16:Int)))+1))*16)<gI y11 1 then w64 ((w64 ((w64 (tdiv (vI p12 0) (16:Int)))+1))*16) else gI y11 1))),.sl 2 []]]),.box [.sref 0
 ((AJ p12 1 0)+1) 0 ((AI p12 1 0)+1)],.box [],.box []])) none) none) none) (again10 ([.t (tI (w64 ((vI p9 0)+1)))],[.row false (AF p12 0) 8
 (oEs p12 0),.box [.sref 0 (AJ p12 1 0) (AK p12 1 0) (AI p12 1 0)],.box []]))
noncomputable def L8_2 (n:Nat) (a3:List (List Tree)) (a2:ByteArray) (a0:Int) (a1:Int) (p9:List AV×Heap) (again10:(List AV×Heap)→Option (List Tree)):Option (List Tree):=
 cnd (decide (vI p9 0<((length a3:Nat):Int))=true) (cnd (2=2∧(0:Int)≤vI p9 0) (Option.bind a3[toNat (vI p9 0)]? fun y11=>cnd (okI y11 0) (cnd (okI y11 1) (AH (fun
 (p12:List AV×Heap) (again13:_→Option (List Tree))=>Uz n y11 a2 a0 again10 p9 p12 again13) n ([.t (tI (gI y11 0))],[.row false (AF p9 0) 8 (oEs p9 0),.box [.sref
 0 (AJ p9 1 0) (AK p9 1 0) (AI p9 1 0)],.box [],.box []])) none) none) none) (cnd (AF p9 0=AJ p9 1 0) (cnd (AF p9 0=AJ p9 1 0∧8=8∧(0:Int)≤w64
 (((AI p9 1 0:Nat):Int)-(1:Int))∧w64 (((AI p9 1 0:Nat):Int)-(1:Int))<((AI p9 1 0:Nat):Int)) (cnd (AF p9 0=AJ p9 1 0) (cnd (AF p9 0=AJ p9 1 0∧3≤8) (Option.bind
 (oEs p9 0)[(AK p9 1 0)+(toNat (w64 (((AI p9 1 0:Nat):Int)-(1:Int))))]? fun y14=>cnd (AJ p9 1 0=AJ p9 1 0) (cnd (AJ p9 1 0=AJ p9 1 0∧6≤8) (Option.bind
 (List.set (oEs p9 0) ((AK p9 1 0)+(toNat (w64 (((AI p9 1 0:Nat):Int)-(1:Int))))) (take 2 y14++([tI a1]++drop 3 y14)))[(AK p9 1 0)+(toNat (w64 (((AI p9 1
 0:Nat):Int)-(1:Int))))]? fun y15=>cnd ((false=true∨false=false)∧AJ p9 1 0=AJ p9 1 0∧(8=8∨8=0)) (some [.sl 8 (take (AI p9 1 0)
 (drop (AK p9 1 0) (List.set (List.set (oEs p9 0) ((AK p9 1 0)+(toNat (w64 (((AI p9 1 0:Nat):Int)-(1:Int))))) (take 2 y14++([tI a1]++drop 3 y14))) ((AK p9
 1 0)+(toNat (w64 (((AI p9 1 0:Nat):Int)-(1:Int))))) (take 5 y15++([.bool true]++drop 6 y15))))),tI 0]) none) none) none) none) none) none) none)
noncomputable def Pj (n:Nat) (a2:ByteArray) (a3:List (List Tree)) (a0:Int) (a1:Int) (p4:List AV×Heap):Option (List Tree):=
 cnd (vB p4 0=true) (some [.sl 8 [],tI 2]) (cnd ((a2==(ByteArray.mk #[]))=true) (some [.sl 8 [],tI 20]) (cnd (decide (((ByteArray.size a2:Nat):Int) >
 (65536:Int))=true) (some [.sl 8 [],tI 4]) (Option.bind (AB C n 36 [.sl 2 a3,tI ((ByteArray.size a2:Nat):Int)]) fun y8=>cnd (length y8=1) (cnd (okB
 y8 0) (cnd ((!(gB y8 0))=true) (some [.sl 8 [],tI 1]) (cnd ((((length a3:Nat):Int)==0)=true) (some [.sl 8 [],tI 20]) (AH (fun (p9:List AV ×
 Heap) (again10:_→Option (List Tree))=>L8_2 n a3 a2 a0 a1 p9 again10) n ([.t (tI 0)],[.row false 0 8 [],.box [.sref 0 0 0 0],.box
 []])))) none) none)))
theorem e8 (n:Nat) (a0:Int) (a1:Int) (a2:ByteArray) (a3:List (List Tree)):AB C (n+1) 8 [tI a0,tI a1,.str a2,.sl 2 a3]=
 join (fun (p4:List AV×Heap)=>Pj n a2 a3 a0 a1 p4) fun (again5:_→Option (List Tree))=>Option.bind (AB C n 35 [tI a0,tI 0,tI 1099511627776]) fun y6=>cnd
 (length y6=1) (cnd (okB y6 0) (cnd ((!(gB y6 0))=true) (again5 ([.t (.bool true)],[])) (Option.bind (AB C n 35 [tI a1,tI 1,tI 1099511627776]) fun y7=>cnd
 (length y7=1) (cnd (okB y7 0) (again5 ([.t (.bool (!(gB y7 0)))],[])) none) none)) none) none:=by kernel_rfl
noncomputable def Rr (n:Nat) (a0:Int) (p1:List AV×Heap) (again2:(List AV×Heap)→Option (List Tree)):Option (List Tree):=
 cnd (decide (vI p1 1<a0)=true) (cnd (AF p1 0=Ar p1 0∧(1=1∨1=0)∧(A1 p1 0)+(AR p1 0)≤length (oEs p1 0)∧(AR p1 0)+1≤
 1073741824) (again2 ([.sref 0 ((Ar p1 0)+1) 0 ((AR p1 0)+1),.t (tI (w64 ((vI p1 1)+1)))],[.row false ((Ar p1 0)+1) 1 ((take
 (AR p1 0) (drop (A1 p1 0) (oEs p1 0)))++[[.int IntKind.u8 (IntKind.wrap IntKind.u8 (vI p1 1))]])])) none) (cnd ((false=true∨false=false)∧AF p1 0=Ar p1 0∧(1 =
 1∨1=0)) (some [.sl 1 (take (AR p1 0) (drop (A1 p1 0) (oEs p1 0)))]) none)
theorem e10 (n:Nat) (a0:Int):AB C (n+1) 10 [tI a0]=
 AH (fun (p1:List AV×Heap) (again2:_→Option (List Tree))=>Rr n a0 p1 again2) n ([.sref 0 0 0 0,.t (tI 0)],[.row false 0 1 []]):=by kernel_rfl
noncomputable def VA (n:Nat) (a7:List (List Tree)) (p10:List AV×Heap) (y14:List Tree) (p15:List AV×Heap) (again16:(List AV×Heap)→Option (List Tree)):Option (List Tree):=
 cnd (decide (vI p15 1<((length a7:Nat):Int))=true) (cnd (2=2∧(0:Int)≤vI p15 1) (Option.bind a7[toNat (vI p15 1)]? fun y17=>cnd (okI y17 0) (cnd (okI y17 1) (cnd (AF
 p15 0=Ar p15 0∧(1=1∨1=0)∧(A1 p15 0)+(AR p15 0)≤length (oEs p15 0)∧(AR p15 0)+2≤1073741824) (again16 ([.sref 0 ((Ar p15
 0)+1) 0 ((AR p15 0)+2),.t (tI (w64 ((vI p15 1)+1)))],[.row false ((Ar p15 0)+1) 1 ((take (AR p15 0) (drop (A1 p15 0) (oEs p15 0)))
 ++ [[tI (gI y17 0)],[tI (gI y17 1)]])])) none) none) none) none) (cnd ((false=true∨false=false)∧AF p15 0=Ar p15 0∧(1=1∨1=0)) (Option.bind (AB C n
 40 [.sl 1 (take (AR p15 0) (drop (A1 p15 0) (oEs p15 0)))]) fun y18=>cnd (length y18=2) (cnd (okS y18 0) (cnd (okI y18 1) (cnd ((ByteArray.size (vS p10 0))
 + (ByteArray.size (gS y14 0))≤9223372036854775807) (cnd ((ByteArray.size ((vS p10 0)++(gS y14 0)))+(ByteArray.size (gS y18 0))≤9223372036854775807) (Option.bind (AB C n 34
 [.str (((vS p10 0)++(gS y14 0))++(gS y18 0))]) fun y19=>cnd (length y19=2) (cnd (okS y19 0) (cnd (okI y19 1) (some [.str (gS y19 0),tI (gI y19 1)]) none) none) none) none)
 none) none) none) none) none)
noncomputable def Pg (n:Nat) (a0:Int) (a1:Int) (a2:Int) (a3:Int) (a4:Int) (y9:List Tree) (a6:ByteArray) (a7:List (List Tree)) (p10:List AV×Heap) (again11:(List AV×Heap)→Option (List Tree)):Option (List Tree):=
 cnd (decide (vI p10 1<6)=true) (cnd (1=1∧(0:Int)≤vI p10 1) (Option.bind [[tI a0],[tI a1],[tI a2],[tI a3],[tI a4],[tI (gI y9 0)]][toNat (vI p10 1)]? fun y12=>cnd
 (okI y12 0) (Option.bind (AB C n 32 [tI (gI y12 0)]) fun y13=>cnd (length y13=2) (cnd (okS y13 0) (cnd (okI y13 1) (cnd ((ByteArray.size (vS p10 0))+(ByteArray.size (gS y13
 0))≤9223372036854775807) (again11 ([.t (.str ((vS p10 0)++(gS y13 0))),.t (tI (w64 ((vI p10 1)+1)))],[])) none) none) none) none) none) none) (Option.bind (AB C n
 30 [.str a6]) fun y14=>cnd (length y14=2) (cnd (okS y14 0) (cnd (okI y14 1) (AH (fun (p15:List AV×Heap) (again16:_→Option (List Tree))=>VA n a7 p10 y14 p15
 again16) n ([.sref 0 0 0 0,.t (tI 0)],[.row false 0 1 []])) none) none) none)
theorem e11 (n:Nat) (a0:Int) (a1:Int) (a2:Int) (a3:Int) (a4:Int) (a5:Bool) (a6:ByteArray) (a7:List (List Tree)):AB C (n+1) 11 [tI a0,tI a1,tI a2,tI a3,tI a4,.bool a5,.str a6,.sl 2 a7]=
 Option.bind (AB C n 38 [tI a0,tI a1,tI a2,tI a3,tI a4,.bool a5,.str a6,.sl 2 a7]) fun y8=>cnd (length y8=1) (cnd (okI y8 0) (cnd (((gI y8 0) !=
 (0:Int))=true) (some [.str (ByteArray.mk #[]),tI (gI y8 0)]) (Option.bind (AB C n 39 [.bool a5]) fun y9=>cnd (length y9=1) (cnd (okI y9 0) (AH (fun (p10:List
 AV×Heap) (again11:_→Option (List Tree))=>Pg n a0 a1 a2 a3 a4 y9 a6 a7 p10 again11) n ([.t (.str (ByteArray.mk #[])),.t (tI 0)],[])) none) none)) none) none:=by kernel_rfl
theorem e12 (n:Nat) (a0:ByteArray):AB C (n+1) 12 [.str a0]=
 Option.bind (AB C n 41 [.str a0]) fun y1=>cnd (length y1=3) (cnd (okS y1 0) (cnd (okI y1 1) (cnd (okI y1 2) (cnd (((gI y1 2) != 0)=true) (some [tI 0,tI
 (0:Int),tI 0,tI 0,tI 0,.bool false,.str (ByteArray.mk #[]),.sl 2 [],tI (gI y1 2)]) (Option.bind (AB C n 42 [.str (gS y1 0)]) fun y2=>cnd
 (length y2=9) (cnd (okI y2 0) (cnd (okI y2 1) (cnd (okI y2 2) (cnd (okI y2 3) (cnd (okI y2 4) (cnd (okB y2 5) (cnd (okS y2 6) (cnd (okL 2 y2 7) (cnd (okB y2 8) (cnd ((!(gB y2 8))=true)
 none (cnd (((gI y1 1) != ((ByteArray.size a0:Nat):Int))=true) none (some [tI (gI y2 0),tI (gI y2 1),tI (gI y2 2),tI (gI y2 3),tI (gI y2 4),.bool (gB y2 5),.str (gS y2 6),.sl
 2 (gL y2 7),tI 0]))) none) none) none) none) none) none) none) none) none) none)) none) none) none) none:=by kernel_rfl
theorem e13 (n:Nat) (a0:Int) (a1:Int) (a2:Int) (a3:Int) (a4:Int) (a5:Bool) (a6:ByteArray) (a7:List (List Tree)) (a8:Int) (a9:Int) (a10:Int) (a11:Int) (a12:Int) (a13:Bool) (a14:ByteArray) (a15:List (List Tree)):AB C (n+1) 13 [tI a0,tI a1,tI a2,tI a3,tI a4,.bool a5,.str a6,.sl 2 a7,tI a8,tI a9,tI a10,tI a11,tI a12,.bool a13,.str a14,.sl 2 a15]=
 cnd ((a0==a8)=true) (cnd ((a1==a9)=true) (cnd ((a2==a10)=true) (cnd ((a3==a11)=true) (cnd ((a4==a12)=true) (cnd ((a5==a13)=true) (cnd ((a6==a14)=true) (Option.bind (AB C
 n 43 [.sl 2 a7,.sl 2 a15]) fun y18=>cnd (length y18=1) (cnd (okB y18 0) (some [.bool (gB y18 0)]) none) none) (some [.bool false])) (some [.bool
 false])) (some [.bool false])) (some [.bool false])) (some [.bool false])) (some [.bool false])) (some [.bool false]):=by kernel_rfl
noncomputable def Pf (n:Nat) (a0:List (List Tree)) (p2:List AV×Heap) (again3:(List AV×Heap)→Option (List Tree)):Option (List Tree):=
 cnd (decide (vI p2 1<((length a0:Nat):Int))=true) (cnd (8=8∧(0:Int)≤vI p2 1) (Option.bind a0[toNat (vI p2 1)]? fun y4=>cnd (okI y4 0) (cnd (okI y4 1) (cnd (okI y4 2)
 (cnd (okI y4 3) (cnd (okI y4 4) (cnd (okB y4 5) (cnd (okS y4 6) (cnd (okL 2 y4 7) (cnd (((vI p2 0) != 0)=true) (some [tI (cI p2 1 0),tI (cI p2 1 1),.sl 2 (cL p2 1 2),.str (cS
 p2 1 3),.bool false]) (Option.bind (AB C n 45 [tI (cI p2 1 0),tI (cI p2 1 1),.sl 2 (cL p2 1 2),.str (cS p2 1 3),tI (gI y4 0),tI (gI y4 1),tI (gI y4 2),tI (gI y4 3),
 tI (gI y4 4),.bool (gB y4 5),.str (gS y4 6),.sl 2 (gL y4 7)]) fun y5=>cnd (length y5=6) (cnd (okI y5 0) (cnd (okI y5 1) (cnd (okL 2 y5 2) (cnd (okS y5 3) (cnd (okL
 8 y5 4) (cnd (okI y5 5) (again3 ([.t (tI (gI y5 5)),.t (tI (w64 ((vI p2 1)+1)))],[.box [.t (tI (cI p2 0 0)),.t (tI (cI p2 0 1)),.t (.sl 2 (cL p2 0 2)),AV.t
 (Tree.str (cS p2 0 3))],.box [.t (tI (gI y5 0)),.t (tI (gI y5 1)),.t (.sl 2 (gL y5 2)),.t (.str (gS y5 3))]])) none) none) none) none) none) none) none)) none) none)
 none) none) none) none) none) none) none) (some [tI (cI p2 1 0),tI (cI p2 1 1),.sl 2 (cL p2 1 2),.str (cS p2 1 3),.bool ((vI p2 0)==0)])
theorem e14 (n:Nat) (a0:List (List Tree)):AB C (n+1) 14 [.sl 8 a0]=
 Option.bind (AB C n 44 [tI 0]) fun y1=>cnd (length y1=5) (cnd (okI y1 0) (cnd (okI y1 1) (cnd (okL 2 y1 2) (cnd (okS y1 3) (cnd (okI y1 4) (AH (fun (p2:List AV ×
 Heap) (again3:_→Option (List Tree))=>Pf n a0 p2 again3) n ([.t (tI (gI y1 4)),.t (tI 0)],[.box [.t (tI 0),.t (tI 0),.t (.sl 2 []),.t (.str
 (ByteArray.mk #[]))],.box [.t (tI (gI y1 0)),.t (tI (gI y1 1)),.t (.sl 2 (gL y1 2)),.t (.str (gS y1 3))]])) none) none) none) none) none) none:=by kernel_rfl
theorem e15 (n:Nat) (a0:Int) (a1:Int) (a2:List (List Tree)) (a3:ByteArray):AB C (n+1) 15 [tI a0,tI a1,.sl 2 a2,.str a3]=
 Option.bind (AB C n 46 [tI a0,tI a1,.sl 2 a2,.str a3]) fun y4=>cnd (length y4=1) (cnd (okI y4 0) (cnd (((gI y4 0) != 0)=true) (some [.str
 (ByteArray.mk #[]),tI 1]) (Option.bind (AB C n 47 [tI a0,tI a1,.sl 2 a2,.str a3]) fun y5=>cnd (length y5=1) (cnd (okB y5 0) (cnd ((!(gB y5 0))=true)
 (some [.str (ByteArray.mk #[]),tI 25]) (some [.str a3,tI 0])) none) none)) none) none:=by kernel_rfl
noncomputable def J16_1 (n:Nat) (again21:(List AV×Heap)→Option (List Tree)) (y19:List Tree) (p22:List AV×Heap):Option (List Tree):=
 cnd ((!(cB p22 2 2))=true) (again21 ([],[.row false (AF p22 0) 3 (oEs p22 0),.box [.t (tI (cI p22 1 0)),.t (tI (cI p22 1 1)),.t (tI (cI p22 1 2)),.t (tI (cI p22 1 3)),
 .t (tI (cI p22 1 4)),.t (tI (cI p22 1 5)),.t (tI (cI p22 1 6)),.t (tI (cI p22 1 7)),.t (tI (cI p22 1 8)),.t (tI (cI p22 1 9)),.sref 0 (AJ p22 1 10) (AK p22 1 10) (AI
 p22 1 10),.t (.str (cS p22 1 11))],.box [.t (.str (cS p22 2 0)),.t (tI (w64 ((cI p22 2 1)+(gI y19 1)))),.t (.bool (cB p22 2 2))],.row false (AF p22 3) 3 (oEs
 p22 3),.box [.t (tI (cI p22 4 0)),.t (tI (cI p22 4 1)),.t (tI (cI p22 4 2)),.t (tI (cI p22 4 3)),.t (tI (cI p22 4 4)),.t (tI (cI p22 4 5)),.t (tI (cI p22 4 6)),.t (tI (cI
 p22 4 7)),.t (tI (cI p22 4 8)),.t (tI (cI p22 4 9)),.sref 3 (AJ p22 4 10) (AK p22 4 10) (AI p22 4 10),.t (.str (cS p22 4 11))]])) none
noncomputable def J16_2 (n:Nat) (again16:(List AV×Heap)→Option (List Tree)) (y19:List Tree) (p20:List AV×Heap):Option (List Tree):=
 again16 ([.t (tI (gI y19 0))],[.row false (AF p20 0) 3 (oEs p20 0),.box [.t (tI (cI p20 1 0)),.t (tI (cI p20 1 1)),.t (tI (cI p20 1 2)),.t (tI (cI p20 1 3)),.t (tI
 (cI p20 1 4)),.t (tI (cI p20 1 5)),.t (tI (cI p20 1 6)),.t (tI (cI p20 1 7)),.t (tI (cI p20 1 8)),.t (tI (cI p20 1 9)),.sref 0 (AJ p20 1 10) (AK p20 1 10) (AI p20 1 10),
 .t (.str (cS p20 1 11))],.box [.t (.str (cS p20 2 0)),.t (tI (cI p20 2 1)),.t (.bool (cB p20 2 2))],.row false (AF p20 3) 3 (oEs p20 3),.box [.t (tI (cI
 p20 4 0)),.t (tI (cI p20 4 1)),.t (tI (cI p20 4 2)),.t (tI (cI p20 4 3)),.t (tI (cI p20 4 4)),.t (tI (cI p20 4 5)),.t (tI (cI p20 4 6)),.t (tI (cI p20 4 7)),.t (tI (cI p20 4
 8)),.t (tI (cI p20 4 9)),.sref 3 (AJ p20 4 10) (AK p20 4 10) (AI p20 4 10),.t (.str (cS p20 4 11))]])
noncomputable def J16_3 (n:Nat) (again14:(List AV×Heap)→Option (List Tree)) (p13:List AV×Heap) (p15:List AV×Heap):Option (List Tree):=
 again14 ([.t (tI (w64 ((vI p13 0)+1)))],[.row false (AF p15 0) 3 (oEs p15 0),.box [.t (tI (cI p15 1 0)),.t (tI (cI p15 1 1)),.t (tI (cI p15 1 2)),.t (tI (cI p15
 1 3)),.t (tI (cI p15 1 4)),.t (tI (cI p15 1 5)),.t (tI (cI p15 1 6)),.t (tI (cI p15 1 7)),.t (tI (cI p15 1 8)),.t (tI (cI p15 1 9)),.sref 0 (AJ p15 1 10) (AK p15 1 10)
 (AI p15 1 10),.t (.str (cS p15 1 11))],.box [.t (.str (cS p15 2 0)),.t (tI (cI p15 2 1)),.t (.bool (cB p15 2 2))],.row false (AF p15 3) 3 (oEs p15 3),
 .box [.t (tI (cI p15 4 0)),.t (tI (cI p15 4 1)),.t (tI (cI p15 4 2)),.t (tI (cI p15 4 3)),.t (tI (cI p15 4 4)),.t (tI (cI p15 4 5)),.t (tI (cI p15 4 6)),.t (tI (cI p15 4
 7)),.t (tI (cI p15 4 8)),.t (tI (vI p15 0)),.sref 3 (AJ p15 4 10) (AK p15 4 10) (AI p15 4 10),.t (.str (cS p15 4 11))]])
noncomputable def J16_4 (n:Nat) (again30:(List AV×Heap)→Option (List Tree)) (y28:List Tree) (p31:List AV×Heap):Option (List Tree):=
 cnd ((!(cB p31 2 2))=true) (again30 ([],[.row false (AF p31 0) 3 (oEs p31 0),.box [.t (tI (cI p31 1 0)),.t (tI (cI p31 1 1)),.t (tI (cI p31 1 2)),.t (tI (cI p31 1 3)),
 .t (tI (cI p31 1 4)),.t (tI (cI p31 1 5)),.t (tI (cI p31 1 6)),.t (tI (cI p31 1 7)),.t (tI (cI p31 1 8)),.t (tI (cI p31 1 9)),.sref 0 (AJ p31 1 10) (AK p31 1 10) (AI
 p31 1 10),.t (.str (cS p31 1 11))],.box [.t (.str (cS p31 2 0)),.t (tI (w64 ((cI p31 2 1)+(gI y28 1)))),.t (.bool (cB p31 2 2))],.row false (AF p31 3) 3 (oEs
 p31 3),.box [.t (tI (cI p31 4 0)),.t (tI (cI p31 4 1)),.t (tI (cI p31 4 2)),.t (tI (cI p31 4 3)),.t (tI (cI p31 4 4)),.t (tI (cI p31 4 5)),.t (tI (cI p31 4 6)),.t (tI (cI
 p31 4 7)),.t (tI (cI p31 4 8)),.t (tI (cI p31 4 9)),.sref 3 (AJ p31 4 10) (AK p31 4 10) (AI p31 4 10),.t (.str (cS p31 4 11))]])) none
noncomputable def J16_5 (n:Nat) (again25:(List AV×Heap)→Option (List Tree)) (y28:List Tree) (p29:List AV×Heap):Option (List Tree):=
 again25 ([.t (tI (gI y28 0))],[.row false (AF p29 0) 3 (oEs p29 0),.box [.t (tI (cI p29 1 0)),.t (tI (cI p29 1 1)),.t (tI (cI p29 1 2)),.t (tI (cI p29 1 3)),.t (tI
 (cI p29 1 4)),.t (tI (cI p29 1 5)),.t (tI (cI p29 1 6)),.t (tI (cI p29 1 7)),.t (tI (cI p29 1 8)),.t (tI (cI p29 1 9)),.sref 0 (AJ p29 1 10) (AK p29 1 10) (AI p29 1 10),
 .t (.str (cS p29 1 11))],.box [.t (.str (cS p29 2 0)),.t (tI (cI p29 2 1)),.t (.bool (cB p29 2 2))],.row false (AF p29 3) 3 (oEs p29 3),.box [.t (tI (cI
 p29 4 0)),.t (tI (cI p29 4 1)),.t (tI (cI p29 4 2)),.t (tI (cI p29 4 3)),.t (tI (cI p29 4 4)),.t (tI (cI p29 4 5)),.t (tI (cI p29 4 6)),.t (tI (cI p29 4 7)),.t (tI (cI p29 4
 8)),.t (tI (cI p29 4 9)),.sref 3 (AJ p29 4 10) (AK p29 4 10) (AI p29 4 10),.t (.str (cS p29 4 11))]])
noncomputable def J16_6 (n:Nat) (again14:(List AV×Heap)→Option (List Tree)) (p13:List AV×Heap) (p24:List AV×Heap):Option (List Tree):=
 again14 ([.t (tI (w64 ((vI p13 0)+1)))],[.row false (AF p24 0) 3 (oEs p24 0),.box [.t (tI (cI p24 1 0)),.t (tI (cI p24 1 1)),.t (tI (cI p24 1 2)),.t (tI (cI p24
 1 3)),.t (tI (cI p24 1 4)),.t (tI (cI p24 1 5)),.t (tI (cI p24 1 6)),.t (tI (cI p24 1 7)),.t (tI (cI p24 1 8)),.t (tI (cI p24 1 9)),.sref 0 (AJ p24 1 10) (AK p24 1 10)
 (AI p24 1 10),.t (.str (cS p24 1 11))],.box [.t (.str (cS p24 2 0)),.t (tI (cI p24 2 1)),.t (.bool (cB p24 2 2))],.row false (AF p24 3) 3 (oEs p24 3),
 .box [.t (tI (cI p24 4 0)),.t (tI (cI p24 4 1)),.t (tI (cI p24 4 2)),.t (tI (cI p24 4 3)),.t (tI (cI p24 4 4)),.t (tI (cI p24 4 5)),.t (tI (cI p24 4 6)),.t (tI (cI p24 4
 7)),.t (tI (vI p24 0)),.t (tI (cI p24 4 9)),.sref 3 (AJ p24 4 10) (AK p24 4 10) (AI p24 4 10),.t (.str (cS p24 4 11))]])
noncomputable def J16_7 (n:Nat) (again39:(List AV×Heap)→Option (List Tree)) (y37:List Tree) (p40:List AV×Heap):Option (List Tree):=
 cnd ((!(cB p40 2 2))=true) (again39 ([],[.row false (AF p40 0) 3 (oEs p40 0),.box [.t (tI (cI p40 1 0)),.t (tI (cI p40 1 1)),.t (tI (cI p40 1 2)),.t (tI (cI p40 1 3)),
 .t (tI (cI p40 1 4)),.t (tI (cI p40 1 5)),.t (tI (cI p40 1 6)),.t (tI (cI p40 1 7)),.t (tI (cI p40 1 8)),.t (tI (cI p40 1 9)),.sref 0 (AJ p40 1 10) (AK p40 1 10) (AI
 p40 1 10),.t (.str (cS p40 1 11))],.box [.t (.str (cS p40 2 0)),.t (tI (w64 ((cI p40 2 1)+(gI y37 1)))),.t (.bool (cB p40 2 2))],.row false (AF p40 3) 3 (oEs
 p40 3),.box [.t (tI (cI p40 4 0)),.t (tI (cI p40 4 1)),.t (tI (cI p40 4 2)),.t (tI (cI p40 4 3)),.t (tI (cI p40 4 4)),.t (tI (cI p40 4 5)),.t (tI (cI p40 4 6)),.t (tI (cI
 p40 4 7)),.t (tI (cI p40 4 8)),.t (tI (cI p40 4 9)),.sref 3 (AJ p40 4 10) (AK p40 4 10) (AI p40 4 10),.t (.str (cS p40 4 11))]])) none
noncomputable def J16_8 (n:Nat) (again34:(List AV×Heap)→Option (List Tree)) (y37:List Tree) (p38:List AV×Heap):Option (List Tree):=
 again34 ([.t (tI (gI y37 0))],[.row false (AF p38 0) 3 (oEs p38 0),.box [.t (tI (cI p38 1 0)),.t (tI (cI p38 1 1)),.t (tI (cI p38 1 2)),.t (tI (cI p38 1 3)),.t (tI
 (cI p38 1 4)),.t (tI (cI p38 1 5)),.t (tI (cI p38 1 6)),.t (tI (cI p38 1 7)),.t (tI (cI p38 1 8)),.t (tI (cI p38 1 9)),.sref 0 (AJ p38 1 10) (AK p38 1 10) (AI p38 1 10),
 .t (.str (cS p38 1 11))],.box [.t (.str (cS p38 2 0)),.t (tI (cI p38 2 1)),.t (.bool (cB p38 2 2))],.row false (AF p38 3) 3 (oEs p38 3),.box [.t (tI (cI
 p38 4 0)),.t (tI (cI p38 4 1)),.t (tI (cI p38 4 2)),.t (tI (cI p38 4 3)),.t (tI (cI p38 4 4)),.t (tI (cI p38 4 5)),.t (tI (cI p38 4 6)),.t (tI (cI p38 4 7)),.t (tI (cI p38 4
 8)),.t (tI (cI p38 4 9)),.sref 3 (AJ p38 4 10) (AK p38 4 10) (AI p38 4 10),.t (.str (cS p38 4 11))]])
noncomputable def J16_9 (n:Nat) (again14:(List AV×Heap)→Option (List Tree)) (p13:List AV×Heap) (p33:List AV×Heap):Option (List Tree):=
 again14 ([.t (tI (w64 ((vI p13 0)+1)))],[.row false (AF p33 0) 3 (oEs p33 0),.box [.t (tI (cI p33 1 0)),.t (tI (cI p33 1 1)),.t (tI (cI p33 1 2)),.t (tI (cI p33
 1 3)),.t (tI (cI p33 1 4)),.t (tI (cI p33 1 5)),.t (tI (cI p33 1 6)),.t (tI (cI p33 1 7)),.t (tI (cI p33 1 8)),.t (tI (cI p33 1 9)),.sref 0 (AJ p33 1 10) (AK p33 1 10)
 (AI p33 1 10),.t (.str (cS p33 1 11))],.box [.t (.str (cS p33 2 0)),.t (tI (cI p33 2 1)),.t (.bool (cB p33 2 2))],.row false (AF p33 3) 3 (oEs p33 3),
 .box [.t (tI (cI p33 4 0)),.t (tI (cI p33 4 1)),.t (tI (cI p33 4 2)),.t (tI (cI p33 4 3)),.t (tI (cI p33 4 4)),.t (tI (cI p33 4 5)),.t (tI (cI p33 4 6)),.t (tI (vI p33 0)),
 .t (tI (cI p33 4 8)),.t (tI (cI p33 4 9)),.sref 3 (AJ p33 4 10) (AK p33 4 10) (AI p33 4 10),.t (.str (cS p33 4 11))]])
noncomputable def Vr (n:Nat) (again48:(List AV×Heap)→Option (List Tree)) (y46:List Tree) (p49:List AV×Heap):Option (List Tree):=
 cnd ((!(cB p49 2 2))=true) (again48 ([],[.row false (AF p49 0) 3 (oEs p49 0),.box [.t (tI (cI p49 1 0)),.t (tI (cI p49 1 1)),.t (tI (cI p49 1 2)),.t (tI (cI p49 1 3)),
 .t (tI (cI p49 1 4)),.t (tI (cI p49 1 5)),.t (tI (cI p49 1 6)),.t (tI (cI p49 1 7)),.t (tI (cI p49 1 8)),.t (tI (cI p49 1 9)),.sref 0 (AJ p49 1 10) (AK p49 1 10) (AI
 p49 1 10),.t (.str (cS p49 1 11))],.box [.t (.str (cS p49 2 0)),.t (tI (w64 ((cI p49 2 1)+(gI y46 1)))),.t (.bool (cB p49 2 2))],.row false (AF p49 3) 3 (oEs
 p49 3),.box [.t (tI (cI p49 4 0)),.t (tI (cI p49 4 1)),.t (tI (cI p49 4 2)),.t (tI (cI p49 4 3)),.t (tI (cI p49 4 4)),.t (tI (cI p49 4 5)),.t (tI (cI p49 4 6)),.t (tI (cI
 p49 4 7)),.t (tI (cI p49 4 8)),.t (tI (cI p49 4 9)),.sref 3 (AJ p49 4 10) (AK p49 4 10) (AI p49 4 10),.t (.str (cS p49 4 11))]])) none
noncomputable def Vq (n:Nat) (again43:(List AV×Heap)→Option (List Tree)) (y46:List Tree) (p47:List AV×Heap):Option (List Tree):=
 again43 ([.t (tI (gI y46 0))],[.row false (AF p47 0) 3 (oEs p47 0),.box [.t (tI (cI p47 1 0)),.t (tI (cI p47 1 1)),.t (tI (cI p47 1 2)),.t (tI (cI p47 1 3)),.t (tI
 (cI p47 1 4)),.t (tI (cI p47 1 5)),.t (tI (cI p47 1 6)),.t (tI (cI p47 1 7)),.t (tI (cI p47 1 8)),.t (tI (cI p47 1 9)),.sref 0 (AJ p47 1 10) (AK p47 1 10) (AI p47 1 10),
 .t (.str (cS p47 1 11))],.box [.t (.str (cS p47 2 0)),.t (tI (cI p47 2 1)),.t (.bool (cB p47 2 2))],.row false (AF p47 3) 3 (oEs p47 3),.box [.t (tI (cI
 p47 4 0)),.t (tI (cI p47 4 1)),.t (tI (cI p47 4 2)),.t (tI (cI p47 4 3)),.t (tI (cI p47 4 4)),.t (tI (cI p47 4 5)),.t (tI (cI p47 4 6)),.t (tI (cI p47 4 7)),.t (tI (cI p47 4
 8)),.t (tI (cI p47 4 9)),.sref 3 (AJ p47 4 10) (AK p47 4 10) (AI p47 4 10),.t (.str (cS p47 4 11))]])
noncomputable def Vp (n:Nat) (again14:(List AV×Heap)→Option (List Tree)) (p13:List AV×Heap) (p42:List AV×Heap):Option (List Tree):=
 again14 ([.t (tI (w64 ((vI p13 0)+1)))],[.row false (AF p42 0) 3 (oEs p42 0),.box [.t (tI (cI p42 1 0)),.t (tI (cI p42 1 1)),.t (tI (cI p42 1 2)),.t (tI (cI p42
 1 3)),.t (tI (cI p42 1 4)),.t (tI (cI p42 1 5)),.t (tI (cI p42 1 6)),.t (tI (cI p42 1 7)),.t (tI (cI p42 1 8)),.t (tI (cI p42 1 9)),.sref 0 (AJ p42 1 10) (AK p42 1 10)
 (AI p42 1 10),.t (.str (cS p42 1 11))],.box [.t (.str (cS p42 2 0)),.t (tI (cI p42 2 1)),.t (.bool (cB p42 2 2))],.row false (AF p42 3) 3 (oEs p42 3),
 .box [.t (tI (cI p42 4 0)),.t (tI (cI p42 4 1)),.t (tI (cI p42 4 2)),.t (tI (cI p42 4 3)),.t (tI (cI p42 4 4)),.t (tI (cI p42 4 5)),.t (tI (vI p42 0)),.t (tI (cI p42 4 7)),
 .t (tI (cI p42 4 8)),.t (tI (cI p42 4 9)),.sref 3 (AJ p42 4 10) (AK p42 4 10) (AI p42 4 10),.t (.str (cS p42 4 11))]])
noncomputable def Vo (n:Nat) (again57:(List AV×Heap)→Option (List Tree)) (y55:List Tree) (p58:List AV×Heap):Option (List Tree):=
 cnd ((!(cB p58 2 2))=true) (again57 ([],[.row false (AF p58 0) 3 (oEs p58 0),.box [.t (tI (cI p58 1 0)),.t (tI (cI p58 1 1)),.t (tI (cI p58 1 2)),.t (tI (cI p58 1 3)),
 .t (tI (cI p58 1 4)),.t (tI (cI p58 1 5)),.t (tI (cI p58 1 6)),.t (tI (cI p58 1 7)),.t (tI (cI p58 1 8)),.t (tI (cI p58 1 9)),.sref 0 (AJ p58 1 10) (AK p58 1 10) (AI
 p58 1 10),.t (.str (cS p58 1 11))],.box [.t (.str (cS p58 2 0)),.t (tI (w64 ((cI p58 2 1)+(gI y55 1)))),.t (.bool (cB p58 2 2))],.row false (AF p58 3) 3 (oEs
 p58 3),.box [.t (tI (cI p58 4 0)),.t (tI (cI p58 4 1)),.t (tI (cI p58 4 2)),.t (tI (cI p58 4 3)),.t (tI (cI p58 4 4)),.t (tI (cI p58 4 5)),.t (tI (cI p58 4 6)),.t (tI (cI
 p58 4 7)),.t (tI (cI p58 4 8)),.t (tI (cI p58 4 9)),.sref 3 (AJ p58 4 10) (AK p58 4 10) (AI p58 4 10),.t (.str (cS p58 4 11))]])) none
noncomputable def Vn (n:Nat) (again52:(List AV×Heap)→Option (List Tree)) (y55:List Tree) (p56:List AV×Heap):Option (List Tree):=
 again52 ([.t (tI (gI y55 0))],[.row false (AF p56 0) 3 (oEs p56 0),.box [.t (tI (cI p56 1 0)),.t (tI (cI p56 1 1)),.t (tI (cI p56 1 2)),.t (tI (cI p56 1 3)),.t (tI
 (cI p56 1 4)),.t (tI (cI p56 1 5)),.t (tI (cI p56 1 6)),.t (tI (cI p56 1 7)),.t (tI (cI p56 1 8)),.t (tI (cI p56 1 9)),.sref 0 (AJ p56 1 10) (AK p56 1 10) (AI p56 1 10),
 .t (.str (cS p56 1 11))],.box [.t (.str (cS p56 2 0)),.t (tI (cI p56 2 1)),.t (.bool (cB p56 2 2))],.row false (AF p56 3) 3 (oEs p56 3),.box [.t (tI (cI
 p56 4 0)),.t (tI (cI p56 4 1)),.t (tI (cI p56 4 2)),.t (tI (cI p56 4 3)),.t (tI (cI p56 4 4)),.t (tI (cI p56 4 5)),.t (tI (cI p56 4 6)),.t (tI (cI p56 4 7)),.t (tI (cI p56 4
 8)),.t (tI (cI p56 4 9)),.sref 3 (AJ p56 4 10) (AK p56 4 10) (AI p56 4 10),.t (.str (cS p56 4 11))]])
noncomputable def Vm (n:Nat) (again14:(List AV×Heap)→Option (List Tree)) (p13:List AV×Heap) (p51:List AV×Heap):Option (List Tree):=
 again14 ([.t (tI (w64 ((vI p13 0)+1)))],[.row false (AF p51 0) 3 (oEs p51 0),.box [.t (tI (cI p51 1 0)),.t (tI (cI p51 1 1)),.t (tI (cI p51 1 2)),.t (tI (cI p51
 1 3)),.t (tI (cI p51 1 4)),.t (tI (cI p51 1 5)),.t (tI (cI p51 1 6)),.t (tI (cI p51 1 7)),.t (tI (cI p51 1 8)),.t (tI (cI p51 1 9)),.sref 0 (AJ p51 1 10) (AK p51 1 10)
 (AI p51 1 10),.t (.str (cS p51 1 11))],.box [.t (.str (cS p51 2 0)),.t (tI (cI p51 2 1)),.t (.bool (cB p51 2 2))],.row false (AF p51 3) 3 (oEs p51 3),
 .box [.t (tI (cI p51 4 0)),.t (tI (cI p51 4 1)),.t (tI (cI p51 4 2)),.t (tI (cI p51 4 3)),.t (tI (cI p51 4 4)),.t (tI (vI p51 0)),.t (tI (cI p51 4 6)),.t (tI (cI p51 4 7)),
 .t (tI (cI p51 4 8)),.t (tI (cI p51 4 9)),.sref 3 (AJ p51 4 10) (AK p51 4 10) (AI p51 4 10),.t (.str (cS p51 4 11))]])
noncomputable def Vl (n:Nat) (again66:(List AV×Heap)→Option (List Tree)) (y64:List Tree) (p67:List AV×Heap):Option (List Tree):=
 cnd ((!(cB p67 2 2))=true) (again66 ([],[.row false (AF p67 0) 3 (oEs p67 0),.box [.t (tI (cI p67 1 0)),.t (tI (cI p67 1 1)),.t (tI (cI p67 1 2)),.t (tI (cI p67 1 3)),
 .t (tI (cI p67 1 4)),.t (tI (cI p67 1 5)),.t (tI (cI p67 1 6)),.t (tI (cI p67 1 7)),.t (tI (cI p67 1 8)),.t (tI (cI p67 1 9)),.sref 0 (AJ p67 1 10) (AK p67 1 10) (AI
 p67 1 10),.t (.str (cS p67 1 11))],.box [.t (.str (cS p67 2 0)),.t (tI (w64 ((cI p67 2 1)+(gI y64 1)))),.t (.bool (cB p67 2 2))],.row false (AF p67 3) 3 (oEs
 p67 3),.box [.t (tI (cI p67 4 0)),.t (tI (cI p67 4 1)),.t (tI (cI p67 4 2)),.t (tI (cI p67 4 3)),.t (tI (cI p67 4 4)),.t (tI (cI p67 4 5)),.t (tI (cI p67 4 6)),.t (tI (cI
 p67 4 7)),.t (tI (cI p67 4 8)),.t (tI (cI p67 4 9)),.sref 3 (AJ p67 4 10) (AK p67 4 10) (AI p67 4 10),.t (.str (cS p67 4 11))]])) none
noncomputable def Vk (n:Nat) (again61:(List AV×Heap)→Option (List Tree)) (y64:List Tree) (p65:List AV×Heap):Option (List Tree):=
 again61 ([.t (tI (gI y64 0))],[.row false (AF p65 0) 3 (oEs p65 0),.box [.t (tI (cI p65 1 0)),.t (tI (cI p65 1 1)),.t (tI (cI p65 1 2)),.t (tI (cI p65 1 3)),.t (tI
 (cI p65 1 4)),.t (tI (cI p65 1 5)),.t (tI (cI p65 1 6)),.t (tI (cI p65 1 7)),.t (tI (cI p65 1 8)),.t (tI (cI p65 1 9)),.sref 0 (AJ p65 1 10) (AK p65 1 10) (AI p65 1 10),
 .t (.str (cS p65 1 11))],.box [.t (.str (cS p65 2 0)),.t (tI (cI p65 2 1)),.t (.bool (cB p65 2 2))],.row false (AF p65 3) 3 (oEs p65 3),.box [.t (tI (cI
 p65 4 0)),.t (tI (cI p65 4 1)),.t (tI (cI p65 4 2)),.t (tI (cI p65 4 3)),.t (tI (cI p65 4 4)),.t (tI (cI p65 4 5)),.t (tI (cI p65 4 6)),.t (tI (cI p65 4 7)),.t (tI (cI p65 4
 8)),.t (tI (cI p65 4 9)),.sref 3 (AJ p65 4 10) (AK p65 4 10) (AI p65 4 10),.t (.str (cS p65 4 11))]])
noncomputable def Vj (n:Nat) (again14:(List AV×Heap)→Option (List Tree)) (p13:List AV×Heap) (p60:List AV×Heap):Option (List Tree):=
 again14 ([.t (tI (w64 ((vI p13 0)+1)))],[.row false (AF p60 0) 3 (oEs p60 0),.box [.t (tI (cI p60 1 0)),.t (tI (cI p60 1 1)),.t (tI (cI p60 1 2)),.t (tI (cI p60
 1 3)),.t (tI (cI p60 1 4)),.t (tI (cI p60 1 5)),.t (tI (cI p60 1 6)),.t (tI (cI p60 1 7)),.t (tI (cI p60 1 8)),.t (tI (cI p60 1 9)),.sref 0 (AJ p60 1 10) (AK p60 1 10)
 (AI p60 1 10),.t (.str (cS p60 1 11))],.box [.t (.str (cS p60 2 0)),.t (tI (cI p60 2 1)),.t (.bool (cB p60 2 2))],.row false (AF p60 3) 3 (oEs p60 3),
 .box [.t (tI (cI p60 4 0)),.t (tI (cI p60 4 1)),.t (tI (cI p60 4 2)),.t (tI (cI p60 4 3)),.t (tI (vI p60 0)),.t (tI (cI p60 4 5)),.t (tI (cI p60 4 6)),.t (tI (cI p60 4 7)),
 .t (tI (cI p60 4 8)),.t (tI (cI p60 4 9)),.sref 3 (AJ p60 4 10) (AK p60 4 10) (AI p60 4 10),.t (.str (cS p60 4 11))]])
noncomputable def Vi (n:Nat) (again75:(List AV×Heap)→Option (List Tree)) (y73:List Tree) (p76:List AV×Heap):Option (List Tree):=
 cnd ((!(cB p76 2 2))=true) (again75 ([],[.row false (AF p76 0) 3 (oEs p76 0),.box [.t (tI (cI p76 1 0)),.t (tI (cI p76 1 1)),.t (tI (cI p76 1 2)),.t (tI (cI p76 1 3)),
 .t (tI (cI p76 1 4)),.t (tI (cI p76 1 5)),.t (tI (cI p76 1 6)),.t (tI (cI p76 1 7)),.t (tI (cI p76 1 8)),.t (tI (cI p76 1 9)),.sref 0 (AJ p76 1 10) (AK p76 1 10) (AI
 p76 1 10),.t (.str (cS p76 1 11))],.box [.t (.str (cS p76 2 0)),.t (tI (w64 ((cI p76 2 1)+(gI y73 1)))),.t (.bool (cB p76 2 2))],.row false (AF p76 3) 3 (oEs
 p76 3),.box [.t (tI (cI p76 4 0)),.t (tI (cI p76 4 1)),.t (tI (cI p76 4 2)),.t (tI (cI p76 4 3)),.t (tI (cI p76 4 4)),.t (tI (cI p76 4 5)),.t (tI (cI p76 4 6)),.t (tI (cI
 p76 4 7)),.t (tI (cI p76 4 8)),.t (tI (cI p76 4 9)),.sref 3 (AJ p76 4 10) (AK p76 4 10) (AI p76 4 10),.t (.str (cS p76 4 11))]])) none
noncomputable def Vh (n:Nat) (again70:(List AV×Heap)→Option (List Tree)) (y73:List Tree) (p74:List AV×Heap):Option (List Tree):=
 again70 ([.t (tI (gI y73 0))],[.row false (AF p74 0) 3 (oEs p74 0),.box [.t (tI (cI p74 1 0)),.t (tI (cI p74 1 1)),.t (tI (cI p74 1 2)),.t (tI (cI p74 1 3)),.t (tI
 (cI p74 1 4)),.t (tI (cI p74 1 5)),.t (tI (cI p74 1 6)),.t (tI (cI p74 1 7)),.t (tI (cI p74 1 8)),.t (tI (cI p74 1 9)),.sref 0 (AJ p74 1 10) (AK p74 1 10) (AI p74 1 10),
 .t (.str (cS p74 1 11))],.box [.t (.str (cS p74 2 0)),.t (tI (cI p74 2 1)),.t (.bool (cB p74 2 2))],.row false (AF p74 3) 3 (oEs p74 3),.box [.t (tI (cI
 p74 4 0)),.t (tI (cI p74 4 1)),.t (tI (cI p74 4 2)),.t (tI (cI p74 4 3)),.t (tI (cI p74 4 4)),.t (tI (cI p74 4 5)),.t (tI (cI p74 4 6)),.t (tI (cI p74 4 7)),.t (tI (cI p74 4
 8)),.t (tI (cI p74 4 9)),.sref 3 (AJ p74 4 10) (AK p74 4 10) (AI p74 4 10),.t (.str (cS p74 4 11))]])
noncomputable def Vg (n:Nat) (again14:(List AV×Heap)→Option (List Tree)) (p13:List AV×Heap) (p69:List AV×Heap):Option (List Tree):=
 again14 ([.t (tI (w64 ((vI p13 0)+1)))],[.row false (AF p69 0) 3 (oEs p69 0),.box [.t (tI (cI p69 1 0)),.t (tI (cI p69 1 1)),.t (tI (cI p69 1 2)),.t (tI (cI p69
 1 3)),.t (tI (cI p69 1 4)),.t (tI (cI p69 1 5)),.t (tI (cI p69 1 6)),.t (tI (cI p69 1 7)),.t (tI (cI p69 1 8)),.t (tI (cI p69 1 9)),.sref 0 (AJ p69 1 10) (AK p69 1 10)
 (AI p69 1 10),.t (.str (cS p69 1 11))],.box [.t (.str (cS p69 2 0)),.t (tI (cI p69 2 1)),.t (.bool (cB p69 2 2))],.row false (AF p69 3) 3 (oEs p69 3),
 .box [.t (tI (cI p69 4 0)),.t (tI (cI p69 4 1)),.t (tI (cI p69 4 2)),.t (tI (vI p69 0)),.t (tI (cI p69 4 4)),.t (tI (cI p69 4 5)),.t (tI (cI p69 4 6)),.t (tI (cI p69 4 7)),
 .t (tI (cI p69 4 8)),.t (tI (cI p69 4 9)),.sref 3 (AJ p69 4 10) (AK p69 4 10) (AI p69 4 10),.t (.str (cS p69 4 11))]])
noncomputable def Vf (n:Nat) (again84:(List AV×Heap)→Option (List Tree)) (y82:List Tree) (p85:List AV×Heap):Option (List Tree):=
 cnd ((!(cB p85 2 2))=true) (again84 ([],[.row false (AF p85 0) 3 (oEs p85 0),.box [.t (tI (cI p85 1 0)),.t (tI (cI p85 1 1)),.t (tI (cI p85 1 2)),.t (tI (cI p85 1 3)),
 .t (tI (cI p85 1 4)),.t (tI (cI p85 1 5)),.t (tI (cI p85 1 6)),.t (tI (cI p85 1 7)),.t (tI (cI p85 1 8)),.t (tI (cI p85 1 9)),.sref 0 (AJ p85 1 10) (AK p85 1 10) (AI
 p85 1 10),.t (.str (cS p85 1 11))],.box [.t (.str (cS p85 2 0)),.t (tI (w64 ((cI p85 2 1)+(gI y82 1)))),.t (.bool (cB p85 2 2))],.row false (AF p85 3) 3 (oEs
 p85 3),.box [.t (tI (cI p85 4 0)),.t (tI (cI p85 4 1)),.t (tI (cI p85 4 2)),.t (tI (cI p85 4 3)),.t (tI (cI p85 4 4)),.t (tI (cI p85 4 5)),.t (tI (cI p85 4 6)),.t (tI (cI
 p85 4 7)),.t (tI (cI p85 4 8)),.t (tI (cI p85 4 9)),.sref 3 (AJ p85 4 10) (AK p85 4 10) (AI p85 4 10),.t (.str (cS p85 4 11))]])) none
noncomputable def Ve (n:Nat) (again79:(List AV×Heap)→Option (List Tree)) (y82:List Tree) (p83:List AV×Heap):Option (List Tree):=
 again79 ([.t (tI (gI y82 0))],[.row false (AF p83 0) 3 (oEs p83 0),.box [.t (tI (cI p83 1 0)),.t (tI (cI p83 1 1)),.t (tI (cI p83 1 2)),.t (tI (cI p83 1 3)),.t (tI
 (cI p83 1 4)),.t (tI (cI p83 1 5)),.t (tI (cI p83 1 6)),.t (tI (cI p83 1 7)),.t (tI (cI p83 1 8)),.t (tI (cI p83 1 9)),.sref 0 (AJ p83 1 10) (AK p83 1 10) (AI p83 1 10),
 .t (.str (cS p83 1 11))],.box [.t (.str (cS p83 2 0)),.t (tI (cI p83 2 1)),.t (.bool (cB p83 2 2))],.row false (AF p83 3) 3 (oEs p83 3),.box [.t (tI (cI
 p83 4 0)),.t (tI (cI p83 4 1)),.t (tI (cI p83 4 2)),.t (tI (cI p83 4 3)),.t (tI (cI p83 4 4)),.t (tI (cI p83 4 5)),.t (tI (cI p83 4 6)),.t (tI (cI p83 4 7)),.t (tI (cI p83 4
 8)),.t (tI (cI p83 4 9)),.sref 3 (AJ p83 4 10) (AK p83 4 10) (AI p83 4 10),.t (.str (cS p83 4 11))]])
noncomputable def Vd (n:Nat) (again14:(List AV×Heap)→Option (List Tree)) (p13:List AV×Heap) (p78:List AV×Heap):Option (List Tree):=
 again14 ([.t (tI (w64 ((vI p13 0)+1)))],[.row false (AF p78 0) 3 (oEs p78 0),.box [.t (tI (cI p78 1 0)),.t (tI (cI p78 1 1)),.t (tI (cI p78 1 2)),.t (tI (cI p78
 1 3)),.t (tI (cI p78 1 4)),.t (tI (cI p78 1 5)),.t (tI (cI p78 1 6)),.t (tI (cI p78 1 7)),.t (tI (cI p78 1 8)),.t (tI (cI p78 1 9)),.sref 0 (AJ p78 1 10) (AK p78 1 10)
 (AI p78 1 10),.t (.str (cS p78 1 11))],.box [.t (.str (cS p78 2 0)),.t (tI (cI p78 2 1)),.t (.bool (cB p78 2 2))],.row false (AF p78 3) 3 (oEs p78 3),
 .box [.t (tI (cI p78 4 0)),.t (tI (cI p78 4 1)),.t (tI (vI p78 0)),.t (tI (cI p78 4 3)),.t (tI (cI p78 4 4)),.t (tI (cI p78 4 5)),.t (tI (cI p78 4 6)),.t (tI (cI p78 4 7)),
 .t (tI (cI p78 4 8)),.t (tI (cI p78 4 9)),.sref 3 (AJ p78 4 10) (AK p78 4 10) (AI p78 4 10),.t (.str (cS p78 4 11))]])
noncomputable def Vc (n:Nat) (again93:(List AV×Heap)→Option (List Tree)) (y91:List Tree) (p94:List AV×Heap):Option (List Tree):=
 cnd ((!(cB p94 2 2))=true) (again93 ([],[.row false (AF p94 0) 3 (oEs p94 0),.box [.t (tI (cI p94 1 0)),.t (tI (cI p94 1 1)),.t (tI (cI p94 1 2)),.t (tI (cI p94 1 3)),
 .t (tI (cI p94 1 4)),.t (tI (cI p94 1 5)),.t (tI (cI p94 1 6)),.t (tI (cI p94 1 7)),.t (tI (cI p94 1 8)),.t (tI (cI p94 1 9)),.sref 0 (AJ p94 1 10) (AK p94 1 10) (AI
 p94 1 10),.t (.str (cS p94 1 11))],.box [.t (.str (cS p94 2 0)),.t (tI (w64 ((cI p94 2 1)+(gI y91 1)))),.t (.bool (cB p94 2 2))],.row false (AF p94 3) 3 (oEs
 p94 3),.box [.t (tI (cI p94 4 0)),.t (tI (cI p94 4 1)),.t (tI (cI p94 4 2)),.t (tI (cI p94 4 3)),.t (tI (cI p94 4 4)),.t (tI (cI p94 4 5)),.t (tI (cI p94 4 6)),.t (tI (cI
 p94 4 7)),.t (tI (cI p94 4 8)),.t (tI (cI p94 4 9)),.sref 3 (AJ p94 4 10) (AK p94 4 10) (AI p94 4 10),.t (.str (cS p94 4 11))]])) none
noncomputable def Vb (n:Nat) (again88:(List AV×Heap)→Option (List Tree)) (y91:List Tree) (p92:List AV×Heap):Option (List Tree):=
 again88 ([.t (tI (gI y91 0))],[.row false (AF p92 0) 3 (oEs p92 0),.box [.t (tI (cI p92 1 0)),.t (tI (cI p92 1 1)),.t (tI (cI p92 1 2)),.t (tI (cI p92 1 3)),.t (tI
 (cI p92 1 4)),.t (tI (cI p92 1 5)),.t (tI (cI p92 1 6)),.t (tI (cI p92 1 7)),.t (tI (cI p92 1 8)),.t (tI (cI p92 1 9)),.sref 0 (AJ p92 1 10) (AK p92 1 10) (AI p92 1 10),
 .t (.str (cS p92 1 11))],.box [.t (.str (cS p92 2 0)),.t (tI (cI p92 2 1)),.t (.bool (cB p92 2 2))],.row false (AF p92 3) 3 (oEs p92 3),.box [.t (tI (cI
 p92 4 0)),.t (tI (cI p92 4 1)),.t (tI (cI p92 4 2)),.t (tI (cI p92 4 3)),.t (tI (cI p92 4 4)),.t (tI (cI p92 4 5)),.t (tI (cI p92 4 6)),.t (tI (cI p92 4 7)),.t (tI (cI p92 4
 8)),.t (tI (cI p92 4 9)),.sref 3 (AJ p92 4 10) (AK p92 4 10) (AI p92 4 10),.t (.str (cS p92 4 11))]])
noncomputable def Va (n:Nat) (again14:(List AV×Heap)→Option (List Tree)) (p13:List AV×Heap) (p87:List AV×Heap):Option (List Tree):=
 again14 ([.t (tI (w64 ((vI p13 0)+1)))],[.row false (AF p87 0) 3 (oEs p87 0),.box [.t (tI (cI p87 1 0)),.t (tI (cI p87 1 1)),.t (tI (cI p87 1 2)),.t (tI (cI p87
 1 3)),.t (tI (cI p87 1 4)),.t (tI (cI p87 1 5)),.t (tI (cI p87 1 6)),.t (tI (cI p87 1 7)),.t (tI (cI p87 1 8)),.t (tI (cI p87 1 9)),.sref 0 (AJ p87 1 10) (AK p87 1 10)
 (AI p87 1 10),.t (.str (cS p87 1 11))],.box [.t (.str (cS p87 2 0)),.t (tI (cI p87 2 1)),.t (.bool (cB p87 2 2))],.row false (AF p87 3) 3 (oEs p87 3),
 .box [.t (tI (cI p87 4 0)),.t (tI (vI p87 0)),.t (tI (cI p87 4 2)),.t (tI (cI p87 4 3)),.t (tI (cI p87 4 4)),.t (tI (cI p87 4 5)),.t (tI (cI p87 4 6)),.t (tI (cI p87 4 7)),
 .t (tI (cI p87 4 8)),.t (tI (cI p87 4 9)),.sref 3 (AJ p87 4 10) (AK p87 4 10) (AI p87 4 10),.t (.str (cS p87 4 11))]])
noncomputable def VZ (n:Nat) (again102:(List AV×Heap)→Option (List Tree)) (y100:List Tree) (p103:List AV×Heap):Option (List Tree):=
 cnd ((!(cB p103 2 2))=true) (again102 ([],[.row false (AF p103 0) 3 (oEs p103 0),.box [.t (tI (cI p103 1 0)),.t (tI (cI p103 1 1)),.t (tI (cI p103 1 2)),.t (tI (cI p103
 1 3)),.t (tI (cI p103 1 4)),.t (tI (cI p103 1 5)),.t (tI (cI p103 1 6)),.t (tI (cI p103 1 7)),.t (tI (cI p103 1 8)),.t (tI (cI p103 1 9)),.sref 0 (AJ p103 1 10) (AK p103
 1 10) (AI p103 1 10),.t (.str (cS p103 1 11))],.box [.t (.str (cS p103 2 0)),.t (tI (w64 ((cI p103 2 1)+(gI y100 1)))),.t (.bool (cB p103 2 2))],.row false (AF
 p103 3) 3 (oEs p103 3),.box [.t (tI (cI p103 4 0)),.t (tI (cI p103 4 1)),.t (tI (cI p103 4 2)),.t (tI (cI p103 4 3)),.t (tI (cI p103 4 4)),.t (tI (cI p103 4 5)),.t (tI
 (cI p103 4 6)),.t (tI (cI p103 4 7)),.t (tI (cI p103 4 8)),.t (tI (cI p103 4 9)),.sref 3 (AJ p103 4 10) (AK p103 4 10) (AI p103 4 10),.t (.str (cS p103 4 11))]])) none
noncomputable def VY (n:Nat) (again97:(List AV×Heap)→Option (List Tree)) (y100:List Tree) (p101:List AV×Heap):Option (List Tree):=
 again97 ([.t (tI (gI y100 0))],[.row false (AF p101 0) 3 (oEs p101 0),.box [.t (tI (cI p101 1 0)),.t (tI (cI p101 1 1)),.t (tI (cI p101 1 2)),.t (tI (cI p101 1 3)),AV.t
 (tI (cI p101 1 4)),.t (tI (cI p101 1 5)),.t (tI (cI p101 1 6)),.t (tI (cI p101 1 7)),.t (tI (cI p101 1 8)),.t (tI (cI p101 1 9)),.sref 0 (AJ p101 1 10) (AK p101 1 10) (AI
 p101 1 10),.t (.str (cS p101 1 11))],.box [.t (.str (cS p101 2 0)),.t (tI (cI p101 2 1)),.t (.bool (cB p101 2 2))],.row false (AF p101 3) 3 (oEs p101 3),
 .box [.t (tI (cI p101 4 0)),.t (tI (cI p101 4 1)),.t (tI (cI p101 4 2)),.t (tI (cI p101 4 3)),.t (tI (cI p101 4 4)),.t (tI (cI p101 4 5)),.t (tI (cI p101 4 6)),.t (tI (cI
 p101 4 7)),.t (tI (cI p101 4 8)),.t (tI (cI p101 4 9)),.sref 3 (AJ p101 4 10) (AK p101 4 10) (AI p101 4 10),.t (.str (cS p101 4 11))]])
noncomputable def VX (n:Nat) (again14:(List AV×Heap)→Option (List Tree)) (p13:List AV×Heap) (p96:List AV×Heap):Option (List Tree):=
 again14 ([.t (tI (w64 ((vI p13 0)+1)))],[.row false (AF p96 0) 3 (oEs p96 0),.box [.t (tI (cI p96 1 0)),.t (tI (cI p96 1 1)),.t (tI (cI p96 1 2)),.t (tI (cI p96
 1 3)),.t (tI (cI p96 1 4)),.t (tI (cI p96 1 5)),.t (tI (cI p96 1 6)),.t (tI (cI p96 1 7)),.t (tI (cI p96 1 8)),.t (tI (cI p96 1 9)),.sref 0 (AJ p96 1 10) (AK p96 1 10)
 (AI p96 1 10),.t (.str (cS p96 1 11))],.box [.t (.str (cS p96 2 0)),.t (tI (cI p96 2 1)),.t (.bool (cB p96 2 2))],.row false (AF p96 3) 3 (oEs p96 3),
 .box [.t (tI (vI p96 0)),.t (tI (cI p96 4 1)),.t (tI (cI p96 4 2)),.t (tI (cI p96 4 3)),.t (tI (cI p96 4 4)),.t (tI (cI p96 4 5)),.t (tI (cI p96 4 6)),.t (tI (cI p96 4 7)),
 .t (tI (cI p96 4 8)),.t (tI (cI p96 4 9)),.sref 3 (AJ p96 4 10) (AK p96 4 10) (AI p96 4 10),.t (.str (cS p96 4 11))]])
noncomputable def VW (n:Nat) (again109:(List AV×Heap)→Option (List Tree)) (y107:List Tree) (p110:List AV×Heap):Option (List Tree):=
 cnd ((!(cB p110 2 2))=true) (again109 ([],[.row false (AF p110 0) 3 (oEs p110 0),.box [.t (tI (cI p110 1 0)),.t (tI (cI p110 1 1)),.t (tI (cI p110 1 2)),.t (tI (cI p110
 1 3)),.t (tI (cI p110 1 4)),.t (tI (cI p110 1 5)),.t (tI (cI p110 1 6)),.t (tI (cI p110 1 7)),.t (tI (cI p110 1 8)),.t (tI (cI p110 1 9)),.sref 0 (AJ p110 1 10) (AK p110
 1 10) (AI p110 1 10),.t (.str (cS p110 1 11))],.box [.t (.str (cS p110 2 0)),.t (tI (w64 ((cI p110 2 1)+(gI y107 1)))),.t (.bool (cB p110 2 2))],.row false (AF
 p110 3) 3 (oEs p110 3),.box [.t (tI (cI p110 4 0)),.t (tI (cI p110 4 1)),.t (tI (cI p110 4 2)),.t (tI (cI p110 4 3)),.t (tI (cI p110 4 4)),.t (tI (cI p110 4 5)),.t (tI
 (cI p110 4 6)),.t (tI (cI p110 4 7)),.t (tI (cI p110 4 8)),.t (tI (cI p110 4 9)),.sref 3 (AJ p110 4 10) (AK p110 4 10) (AI p110 4 10),.t (.str (cS p110 4 11))]])) none
noncomputable def VV (n:Nat) (again118:(List AV×Heap)→Option (List Tree)) (y116:List Tree) (p119:List AV×Heap):Option (List Tree):=
 cnd ((!(cB p119 2 2))=true) (again118 ([],[.row false (AF p119 0) 3 (oEs p119 0),.box [.t (tI (cI p119 1 0)),.t (tI (cI p119 1 1)),.t (tI (cI p119 1 2)),.t (tI (cI p119
 1 3)),.t (tI (cI p119 1 4)),.t (tI (cI p119 1 5)),.t (tI (cI p119 1 6)),.t (tI (cI p119 1 7)),.t (tI (cI p119 1 8)),.t (tI (cI p119 1 9)),.sref 0 (AJ p119 1 10) (AK p119
 1 10) (AI p119 1 10),.t (.str (cS p119 1 11))],.box [.t (.str (cS p119 2 0)),.t (tI (w64 ((cI p119 2 1)+(gI y116 1)))),.t (.bool (cB p119 2 2))],.row false (AF
 p119 3) 3 (oEs p119 3),.box [.t (tI (cI p119 4 0)),.t (tI (cI p119 4 1)),.t (tI (cI p119 4 2)),.t (tI (cI p119 4 3)),.t (tI (cI p119 4 4)),.t (tI (cI p119 4 5)),.t (tI
 (cI p119 4 6)),.t (tI (cI p119 4 7)),.t (tI (cI p119 4 8)),.t (tI (cI p119 4 9)),.t (.sl 3 (cL p119 4 10)),.t (.str (cS p119 4 11))]])) none
noncomputable def VU (n:Nat) (again113:(List AV×Heap)→Option (List Tree)) (y116:List Tree) (p117:List AV×Heap):Option (List Tree):=
 again113 ([.t (.str (gS y116 0))],[.row false (AF p117 0) 3 (oEs p117 0),.box [.t (tI (cI p117 1 0)),.t (tI (cI p117 1 1)),.t (tI (cI p117 1 2)),.t (tI (cI p117 1
 3)),.t (tI (cI p117 1 4)),.t (tI (cI p117 1 5)),.t (tI (cI p117 1 6)),.t (tI (cI p117 1 7)),.t (tI (cI p117 1 8)),.t (tI (cI p117 1 9)),.sref 0 (AJ p117 1 10) (AK p117 1
 10) (AI p117 1 10),.t (.str (cS p117 1 11))],.box [.t (.str (cS p117 2 0)),.t (tI (cI p117 2 1)),.t (.bool (cB p117 2 2))],.row false (AF p117 3) 3 (oEs p117
 3),.box [.t (tI (cI p117 4 0)),.t (tI (cI p117 4 1)),.t (tI (cI p117 4 2)),.t (tI (cI p117 4 3)),.t (tI (cI p117 4 4)),.t (tI (cI p117 4 5)),.t (tI (cI p117 4 6)),.t (tI
 (cI p117 4 7)),.t (tI (cI p117 4 8)),.t (tI (cI p117 4 9)),.t (.sl 3 (cL p117 4 10)),.t (.str (cS p117 4 11))]])
noncomputable def VT (n:Nat)  (p112:List AV×Heap):Option (List Tree):=
 cnd (cB p112 2 2=true) none (cnd ((0:Int)≤cI p112 2 1∧cI p112 2 1≤((ByteArray.size (cS p112 2 0):Nat):Int)) (cnd (((ByteArray.extract (cS p112 2 0) (toNat (cI p112 2 1)) (ByteArray.size
 (cS p112 2 0))) != (ByteArray.mk #[]))=true) none (Option.bind (AB C n 29 [tI (cI p112 4 0),tI (cI p112 4 1),tI (cI p112 4 2),tI (cI p112 4 3),tI (cI p112 4 4),tI (cI p112 4 5),tI (cI
 p112 4 6),tI (cI p112 4 7),tI (cI p112 4 8),tI (cI p112 4 9),.sl 3 (cL p112 4 10),.str (vS p112 0)]) fun y125=>cnd (length y125=1) (cnd (okI y125 0) (cnd (((gI y125
 0) != 0)=true) none (some [tI (cI p112 4 0),tI (cI p112 4 1),tI (cI p112 4 2),tI (cI p112 4 3),tI (cI p112 4 4),tI (cI p112 4 5),tI (cI p112 4 6),tI (cI p112 4 7),tI (cI p112 4 8),tI
 (cI p112 4 9),.sl 3 (cL p112 4 10),.str (vS p112 0),tI 0])) none) none)) none)
noncomputable def VS (n:Nat) (y107:List Tree) (p108:List AV×Heap):Option (List Tree):=
 join (fun (p112:List AV×Heap)=>VT n p112) fun (again113:_→Option (List Tree))=>cnd ((0:Int)≤cI p108 2 1∧cI p108 2 1≤((ByteArray.size (cS p108 2 0):Nat):Int)) (Option.bind (AB
 C n 84 [.str (ByteArray.extract (cS p108 2 0) (toNat (cI p108 2 1)) (ByteArray.size (cS p108 2 0)))]) fun y116=>cnd (length y116=3) (cnd (okS y116 0) (cnd (okI y116 1)
 (cnd (okI y116 2) (join (fun (p117:List AV×Heap)=>VU n again113 y116 p117) fun (again118:_→Option (List Tree))=>join (fun (p119:List AV×Heap)=>VV n again118 y116 p119) fun
 (again120:_→Option (List Tree))=>cnd (cB p108 2 2=true) (again120 ([],[.row false (AF p108 0) 3 (oEs p108 0),.box [.t (tI (cI p108 1 0)),.t (tI (cI p108 1 1)),.t (tI
 (cI p108 1 2)),.t (tI (cI p108 1 3)),.t (tI (cI p108 1 4)),.t (tI (cI p108 1 5)),.t (tI (cI p108 1 6)),.t (tI (cI p108 1 7)),.t (tI (cI p108 1 8)),.t (tI (cI p108 1 9)),.sref
 0 (AJ p108 1 10) (AK p108 1 10) (AI p108 1 10),.t (.str (cS p108 1 11))],.box [.t (.str (cS p108 2 0)),.t (tI (cI p108 2 1)),.t (.bool true)],.row false
 (AF p108 3) 3 (oEs p108 3),.box [.t (tI (cI p108 4 0)),.t (tI (cI p108 4 1)),.t (tI (cI p108 4 2)),.t (tI (cI p108 4 3)),.t (tI (cI p108 4 4)),.t (tI (cI p108 4 5)),AV.t
 (tI (cI p108 4 6)),.t (tI (cI p108 4 7)),.t (tI (cI p108 4 8)),.t (tI (cI p108 4 9)),.t (.sl 3 (gL y107 0)),.t (.str (cS p108 4 11))]])) (again120 ([],[.row false
 (AF p108 0) 3 (oEs p108 0),.box [.t (tI (cI p108 1 0)),.t (tI (cI p108 1 1)),.t (tI (cI p108 1 2)),.t (tI (cI p108 1 3)),.t (tI (cI p108 1 4)),.t (tI (cI p108 1 5)),AV.t
 (tI (cI p108 1 6)),.t (tI (cI p108 1 7)),.t (tI (cI p108 1 8)),.t (tI (cI p108 1 9)),.sref 0 (AJ p108 1 10) (AK p108 1 10) (AI p108 1 10),.t (.str (cS p108 1 11))],
 .box [.t (.str (cS p108 2 0)),.t (tI (cI p108 2 1)),.t (.bool ((gI y116 2) != 0))],.row false (AF p108 3) 3 (oEs p108 3),.box [.t (tI (cI p108 4 0)),AV.t
 (tI (cI p108 4 1)),.t (tI (cI p108 4 2)),.t (tI (cI p108 4 3)),.t (tI (cI p108 4 4)),.t (tI (cI p108 4 5)),.t (tI (cI p108 4 6)),.t (tI (cI p108 4 7)),.t (tI (cI p108 4 8)),AV.t
 (tI (cI p108 4 9)),.t (.sl 3 (gL y107 0)),.t (.str (cS p108 4 11))]]))) none) none) none) none) none
noncomputable def Lq (n:Nat)  (p13:List AV×Heap) (again14:(List AV×Heap)→Option (List Tree)):Option (List Tree):=
 cnd (decide (vI p13 0<10)=true) (cnd ((0:Int)≤vI p13 0∧vI p13 0<10) (cnd (vI p13 0=((9:Nat):Int)) (join (fun (p15:List AV×Heap)=>J16_3 n again14 p13 p15) fun (again16:_
 →Option (List Tree))=>cnd ((0:Int)≤cI p13 2 1∧cI p13 2 1≤((ByteArray.size (cS p13 2 0):Nat):Int)) (Option.bind (AB C n 83 [.str (ByteArray.extract (cS p13 2 0) (toNat (cI p13
 2 1)) (ByteArray.size (cS p13 2 0)))]) fun y19=>cnd (length y19=3) (cnd (okI y19 0) (cnd (okI y19 1) (cnd (okI y19 2) (join (fun (p20:List AV×Heap)=>J16_2 n again16 y19 p20) fun
 (again21:_→Option (List Tree))=>join (fun (p22:List AV×Heap)=>J16_1 n again21 y19 p22) fun (again23:_→Option (List Tree))=>cnd (cB p13 2 2=true) (again23 ([],[.row false (AF
 p13 0) 3 (oEs p13 0),.box [.t (tI (cI p13 1 0)),.t (tI (cI p13 1 1)),.t (tI (cI p13 1 2)),.t (tI (cI p13 1 3)),.t (tI (cI p13 1 4)),.t (tI (cI p13 1 5)),.t (tI (cI p13 1
 6)),.t (tI (cI p13 1 7)),.t (tI (cI p13 1 8)),.t (tI (cI p13 1 9)),.sref 0 (AJ p13 1 10) (AK p13 1 10) (AI p13 1 10),.t (.str (cS p13 1 11))],.box [.t (.str
 (cS p13 2 0)),.t (tI (cI p13 2 1)),.t (.bool true)],.row false (AF p13 3) 3 (oEs p13 3),.box [.t (tI (cI p13 4 0)),.t (tI (cI p13 4 1)),.t (tI (cI p13 4 2)),AV.t
 (tI (cI p13 4 3)),.t (tI (cI p13 4 4)),.t (tI (cI p13 4 5)),.t (tI (cI p13 4 6)),.t (tI (cI p13 4 7)),.t (tI (cI p13 4 8)),.t (tI (cI p13 4 9)),.sref 3 (AJ p13 4 10) (AK
 p13 4 10) (AI p13 4 10),.t (.str (cS p13 4 11))]])) (again23 ([],[.row false (AF p13 0) 3 (oEs p13 0),.box [.t (tI (cI p13 1 0)),.t (tI (cI p13 1 1)),.t (tI (cI p13
 1 2)),.t (tI (cI p13 1 3)),.t (tI (cI p13 1 4)),.t (tI (cI p13 1 5)),.t (tI (cI p13 1 6)),.t (tI (cI p13 1 7)),.t (tI (cI p13 1 8)),.t (tI (cI p13 1 9)),.sref 0 (AJ p13
 1 10) (AK p13 1 10) (AI p13 1 10),.t (.str (cS p13 1 11))],.box [.t (.str (cS p13 2 0)),.t (tI (cI p13 2 1)),.t (.bool ((gI y19 2) != 0))],.row false (AF
 p13 3) 3 (oEs p13 3),.box [.t (tI (cI p13 4 0)),.t (tI (cI p13 4 1)),.t (tI (cI p13 4 2)),.t (tI (cI p13 4 3)),.t (tI (cI p13 4 4)),.t (tI (cI p13 4 5)),.t (tI (cI p13 4
 6)),.t (tI (cI p13 4 7)),.t (tI (cI p13 4 8)),.t (tI (cI p13 4 9)),.sref 3 (AJ p13 4 10) (AK p13 4 10) (AI p13 4 10),.t (.str (cS p13 4 11))]]))) none) none) none) none)
 none) (cnd (vI p13 0=((8:Nat):Int)) (join (fun (p24:List AV×Heap)=>J16_6 n again14 p13 p24) fun (again25:_→Option (List Tree))=>cnd ((0:Int)≤cI p13 2 1∧cI p13 2 1≤((ByteArray.size
 (cS p13 2 0):Nat):Int)) (Option.bind (AB C n 83 [.str (ByteArray.extract (cS p13 2 0) (toNat (cI p13 2 1)) (ByteArray.size (cS p13 2 0)))]) fun y28=>cnd (length y28=3)
 (cnd (okI y28 0) (cnd (okI y28 1) (cnd (okI y28 2) (join (fun (p29:List AV×Heap)=>J16_5 n again25 y28 p29) fun (again30:_→Option (List Tree))=>join (fun (p31:List AV×Heap)=>J16_4 n
 again30 y28 p31) fun (again32:_→Option (List Tree))=>cnd (cB p13 2 2=true) (again32 ([],[.row false (AF p13 0) 3 (oEs p13 0),.box [.t (tI (cI p13 1 0)),.t (tI (cI p13 1
 1)),.t (tI (cI p13 1 2)),.t (tI (cI p13 1 3)),.t (tI (cI p13 1 4)),.t (tI (cI p13 1 5)),.t (tI (cI p13 1 6)),.t (tI (cI p13 1 7)),.t (tI (cI p13 1 8)),.t (tI (cI p13 1 9)),
 .sref 0 (AJ p13 1 10) (AK p13 1 10) (AI p13 1 10),.t (.str (cS p13 1 11))],.box [.t (.str (cS p13 2 0)),.t (tI (cI p13 2 1)),.t (.bool true)],.row false
 (AF p13 3) 3 (oEs p13 3),.box [.t (tI (cI p13 4 0)),.t (tI (cI p13 4 1)),.t (tI (cI p13 4 2)),.t (tI (cI p13 4 3)),.t (tI (cI p13 4 4)),.t (tI (cI p13 4 5)),.t (tI (cI
 p13 4 6)),.t (tI (cI p13 4 7)),.t (tI (cI p13 4 8)),.t (tI (cI p13 4 9)),.sref 3 (AJ p13 4 10) (AK p13 4 10) (AI p13 4 10),.t (.str (cS p13 4 11))]])) (again32 ([],
 [.row false (AF p13 0) 3 (oEs p13 0),.box [.t (tI (cI p13 1 0)),.t (tI (cI p13 1 1)),.t (tI (cI p13 1 2)),.t (tI (cI p13 1 3)),.t (tI (cI p13 1 4)),.t (tI (cI p13 1
 5)),.t (tI (cI p13 1 6)),.t (tI (cI p13 1 7)),.t (tI (cI p13 1 8)),.t (tI (cI p13 1 9)),.sref 0 (AJ p13 1 10) (AK p13 1 10) (AI p13 1 10),.t (.str (cS p13 1 11))],
 .box [.t (.str (cS p13 2 0)),.t (tI (cI p13 2 1)),.t (.bool ((gI y28 2) != 0))],.row false (AF p13 3) 3 (oEs p13 3),.box [.t (tI (cI p13 4 0)),.t (tI
 (cI p13 4 1)),.t (tI (cI p13 4 2)),.t (tI (cI p13 4 3)),.t (tI (cI p13 4 4)),.t (tI (cI p13 4 5)),.t (tI (cI p13 4 6)),.t (tI (cI p13 4 7)),.t (tI (cI p13 4 8)),.t (tI (cI p13
 4 9)),.sref 3 (AJ p13 4 10) (AK p13 4 10) (AI p13 4 10),.t (.str (cS p13 4 11))]]))) none) none) none) none) none) (cnd (vI p13 0=((7:Nat):Int)) (join (fun (p33:List AV ×
 Heap)=>J16_9 n again14 p13 p33) fun (again34:_→Option (List Tree))=>cnd ((0:Int)≤cI p13 2 1∧cI p13 2 1≤((ByteArray.size (cS p13 2 0):Nat):Int)) (Option.bind (AB C n 83 [.str
 (ByteArray.extract (cS p13 2 0) (toNat (cI p13 2 1)) (ByteArray.size (cS p13 2 0)))]) fun y37=>cnd (length y37=3) (cnd (okI y37 0) (cnd (okI y37 1) (cnd (okI y37 2) (join (fun (p38
 : List AV×Heap)=>J16_8 n again34 y37 p38) fun (again39:_→Option (List Tree))=>join (fun (p40:List AV×Heap)=>J16_7 n again39 y37 p40) fun (again41:_→Option (List Tree))=>cnd (cB
 p13 2 2=true) (again41 ([],[.row false (AF p13 0) 3 (oEs p13 0),.box [.t (tI (cI p13 1 0)),.t (tI (cI p13 1 1)),.t (tI (cI p13 1 2)),.t (tI (cI p13 1 3)),.t (tI (cI
 p13 1 4)),.t (tI (cI p13 1 5)),.t (tI (cI p13 1 6)),.t (tI (cI p13 1 7)),.t (tI (cI p13 1 8)),.t (tI (cI p13 1 9)),.sref 0 (AJ p13 1 10) (AK p13 1 10) (AI p13 1 10),AV.t
 (Tree.str (cS p13 1 11))],.box [.t (.str (cS p13 2 0)),.t (tI (cI p13 2 1)),.t (.bool true)],.row false (AF p13 3) 3 (oEs p13 3),.box [.t (tI (cI p13 4 0)),
 .t (tI (cI p13 4 1)),.t (tI (cI p13 4 2)),.t (tI (cI p13 4 3)),.t (tI (cI p13 4 4)),.t (tI (cI p13 4 5)),.t (tI (cI p13 4 6)),.t (tI (cI p13 4 7)),.t (tI (cI p13 4 8)),.t (tI
 (cI p13 4 9)),.sref 3 (AJ p13 4 10) (AK p13 4 10) (AI p13 4 10),.t (.str (cS p13 4 11))]])) (again41 ([],[.row false (AF p13 0) 3 (oEs p13 0),.box [.t (tI (cI
 p13 1 0)),.t (tI (cI p13 1 1)),.t (tI (cI p13 1 2)),.t (tI (cI p13 1 3)),.t (tI (cI p13 1 4)),.t (tI (cI p13 1 5)),.t (tI (cI p13 1 6)),.t (tI (cI p13 1 7)),.t (tI (cI p13 1
 8)),.t (tI (cI p13 1 9)),.sref 0 (AJ p13 1 10) (AK p13 1 10) (AI p13 1 10),.t (.str (cS p13 1 11))],.box [.t (.str (cS p13 2 0)),.t (tI (cI p13 2 1)),AV.t
 (Tree.bool ((gI y37 2) != 0))],.row false (AF p13 3) 3 (oEs p13 3),.box [.t (tI (cI p13 4 0)),.t (tI (cI p13 4 1)),.t (tI (cI p13 4 2)),.t (tI (cI p13 4 3)),AV.t
 (tI (cI p13 4 4)),.t (tI (cI p13 4 5)),.t (tI (cI p13 4 6)),.t (tI (cI p13 4 7)),.t (tI (cI p13 4 8)),.t (tI (cI p13 4 9)),.sref 3 (AJ p13 4 10) (AK p13 4 10) (AI p13 4
 10),.t (.str (cS p13 4 11))]]))) none) none) none) none) none) (cnd (vI p13 0=((6:Nat):Int)) (join (fun (p42:List AV×Heap)=>Vp n again14 p13 p42) fun (again43:_→Option (List
 Tree))=>cnd ((0:Int)≤cI p13 2 1∧cI p13 2 1≤((ByteArray.size (cS p13 2 0):Nat):Int)) (Option.bind (AB C n 83 [.str (ByteArray.extract (cS p13 2 0) (toNat (cI p13 2 1))
 (ByteArray.size (cS p13 2 0)))]) fun y46=>cnd (length y46=3) (cnd (okI y46 0) (cnd (okI y46 1) (cnd (okI y46 2) (join (fun (p47:List AV×Heap)=>Vq n again43 y46 p47) fun
 (again48:_→Option (List Tree))=>join (fun (p49:List AV×Heap)=>Vr n again48 y46 p49) fun (again50:_→Option (List Tree))=>cnd (cB p13 2 2=true) (again50 ([],[.row false
 (AF p13 0) 3 (oEs p13 0),.box [.t (tI (cI p13 1 0)),.t (tI (cI p13 1 1)),.t (tI (cI p13 1 2)),.t (tI (cI p13 1 3)),.t (tI (cI p13 1 4)),.t (tI (cI p13 1 5)),.t (tI (cI
 p13 1 6)),.t (tI (cI p13 1 7)),.t (tI (cI p13 1 8)),.t (tI (cI p13 1 9)),.sref 0 (AJ p13 1 10) (AK p13 1 10) (AI p13 1 10),.t (.str (cS p13 1 11))],.box [AV.t
 (Tree.str (cS p13 2 0)),.t (tI (cI p13 2 1)),.t (.bool true)],.row false (AF p13 3) 3 (oEs p13 3),.box [.t (tI (cI p13 4 0)),.t (tI (cI p13 4 1)),.t (tI (cI p13 4
 2)),.t (tI (cI p13 4 3)),.t (tI (cI p13 4 4)),.t (tI (cI p13 4 5)),.t (tI (cI p13 4 6)),.t (tI (cI p13 4 7)),.t (tI (cI p13 4 8)),.t (tI (cI p13 4 9)),.sref 3 (AJ p13 4
 10) (AK p13 4 10) (AI p13 4 10),.t (.str (cS p13 4 11))]])) (again50 ([],[.row false (AF p13 0) 3 (oEs p13 0),.box [.t (tI (cI p13 1 0)),.t (tI (cI p13 1 1)),AV.t
 (tI (cI p13 1 2)),.t (tI (cI p13 1 3)),.t (tI (cI p13 1 4)),.t (tI (cI p13 1 5)),.t (tI (cI p13 1 6)),.t (tI (cI p13 1 7)),.t (tI (cI p13 1 8)),.t (tI (cI p13 1 9)),.sref
 0 (AJ p13 1 10) (AK p13 1 10) (AI p13 1 10),.t (.str (cS p13 1 11))],.box [.t (.str (cS p13 2 0)),.t (tI (cI p13 2 1)),.t (.bool ((gI y46 2) != 0))],
 .row false (AF p13 3) 3 (oEs p13 3),.box [.t (tI (cI p13 4 0)),.t (tI (cI p13 4 1)),.t (tI (cI p13 4 2)),.t (tI (cI p13 4 3)),.t (tI (cI p13 4 4)),.t (tI (cI p13 4
 5)),.t (tI (cI p13 4 6)),.t (tI (cI p13 4 7)),.t (tI (cI p13 4 8)),.t (tI (cI p13 4 9)),.sref 3 (AJ p13 4 10) (AK p13 4 10) (AI p13 4 10),.t (.str (cS p13 4 11))]])))
 none) none) none) none) none) (cnd (vI p13 0=((5:Nat):Int)) (join (fun (p51:List AV×Heap)=>Vm n again14 p13 p51) fun (again52:_→Option (List Tree))=>cnd ((0:Int)≤cI p13 2 1∧cI
 p13 2 1≤((ByteArray.size (cS p13 2 0):Nat):Int)) (Option.bind (AB C n 83 [.str (ByteArray.extract (cS p13 2 0) (toNat (cI p13 2 1)) (ByteArray.size (cS p13 2 0)))]) fun y55=>cnd
 (length y55=3) (cnd (okI y55 0) (cnd (okI y55 1) (cnd (okI y55 2) (join (fun (p56:List AV×Heap)=>Vn n again52 y55 p56) fun (again57:_→Option (List Tree))=>join (fun (p58 :
 List AV×Heap)=>Vo n again57 y55 p58) fun (again59:_→Option (List Tree))=>cnd (cB p13 2 2=true) (again59 ([],[.row false (AF p13 0) 3 (oEs p13 0),.box [.t (tI (cI
 p13 1 0)),.t (tI (cI p13 1 1)),.t (tI (cI p13 1 2)),.t (tI (cI p13 1 3)),.t (tI (cI p13 1 4)),.t (tI (cI p13 1 5)),.t (tI (cI p13 1 6)),.t (tI (cI p13 1 7)),.t (tI (cI p13 1
 8)),.t (tI (cI p13 1 9)),.sref 0 (AJ p13 1 10) (AK p13 1 10) (AI p13 1 10),.t (.str (cS p13 1 11))],.box [.t (.str (cS p13 2 0)),.t (tI (cI p13 2 1)),AV.t
 (Tree.bool true)],.row false (AF p13 3) 3 (oEs p13 3),.box [.t (tI (cI p13 4 0)),.t (tI (cI p13 4 1)),.t (tI (cI p13 4 2)),.t (tI (cI p13 4 3)),.t (tI (cI p13 4 4)),
 .t (tI (cI p13 4 5)),.t (tI (cI p13 4 6)),.t (tI (cI p13 4 7)),.t (tI (cI p13 4 8)),.t (tI (cI p13 4 9)),.sref 3 (AJ p13 4 10) (AK p13 4 10) (AI p13 4 10),.t (.str
 (cS p13 4 11))]])) (again59 ([],[.row false (AF p13 0) 3 (oEs p13 0),.box [.t (tI (cI p13 1 0)),.t (tI (cI p13 1 1)),.t (tI (cI p13 1 2)),.t (tI (cI p13 1 3)),.t (tI
 (cI p13 1 4)),.t (tI (cI p13 1 5)),.t (tI (cI p13 1 6)),.t (tI (cI p13 1 7)),.t (tI (cI p13 1 8)),.t (tI (cI p13 1 9)),.sref 0 (AJ p13 1 10) (AK p13 1 10) (AI p13 1 10),
 .t (.str (cS p13 1 11))],.box [.t (.str (cS p13 2 0)),.t (tI (cI p13 2 1)),.t (.bool ((gI y55 2) != 0))],.row false (AF p13 3) 3 (oEs p13 3),.box
 [.t (tI (cI p13 4 0)),.t (tI (cI p13 4 1)),.t (tI (cI p13 4 2)),.t (tI (cI p13 4 3)),.t (tI (cI p13 4 4)),.t (tI (cI p13 4 5)),.t (tI (cI p13 4 6)),.t (tI (cI p13 4 7)),AV.t
 (tI (cI p13 4 8)),.t (tI (cI p13 4 9)),.sref 3 (AJ p13 4 10) (AK p13 4 10) (AI p13 4 10),.t (.str (cS p13 4 11))]]))) none) none) none) none) none) (cnd (vI p13 0 =
 ((4:Nat):Int)) (join (fun (p60:List AV×Heap)=>Vj n again14 p13 p60) fun (again61:_→Option (List Tree))=>cnd ((0:Int)≤cI p13 2 1∧cI p13 2 1≤((ByteArray.size (cS p13 2
 0):Nat):Int)) (Option.bind (AB C n 83 [.str (ByteArray.extract (cS p13 2 0) (toNat (cI p13 2 1)) (ByteArray.size (cS p13 2 0)))]) fun y64=>cnd (length y64=3) (cnd (okI
 y64 0) (cnd (okI y64 1) (cnd (okI y64 2) (join (fun (p65:List AV×Heap)=>Vk n again61 y64 p65) fun (again66:_→Option (List Tree))=>join (fun (p67:List AV×Heap)=>Vl n again66
 y64 p67) fun (again68:_→Option (List Tree))=>cnd (cB p13 2 2=true) (again68 ([],[.row false (AF p13 0) 3 (oEs p13 0),.box [.t (tI (cI p13 1 0)),.t (tI (cI p13 1 1)),
 .t (tI (cI p13 1 2)),.t (tI (cI p13 1 3)),.t (tI (cI p13 1 4)),.t (tI (cI p13 1 5)),.t (tI (cI p13 1 6)),.t (tI (cI p13 1 7)),.t (tI (cI p13 1 8)),.t (tI (cI p13 1 9)),.sref
 0 (AJ p13 1 10) (AK p13 1 10) (AI p13 1 10),.t (.str (cS p13 1 11))],.box [.t (.str (cS p13 2 0)),.t (tI (cI p13 2 1)),.t (.bool true)],.row false (AF
 p13 3) 3 (oEs p13 3),.box [.t (tI (cI p13 4 0)),.t (tI (cI p13 4 1)),.t (tI (cI p13 4 2)),.t (tI (cI p13 4 3)),.t (tI (cI p13 4 4)),.t (tI (cI p13 4 5)),.t (tI (cI p13 4
 6)),.t (tI (cI p13 4 7)),.t (tI (cI p13 4 8)),.t (tI (cI p13 4 9)),.sref 3 (AJ p13 4 10) (AK p13 4 10) (AI p13 4 10),.t (.str (cS p13 4 11))]])) (again68 ([],[.row
 false (AF p13 0) 3 (oEs p13 0),.box [.t (tI (cI p13 1 0)),.t (tI (cI p13 1 1)),.t (tI (cI p13 1 2)),.t (tI (cI p13 1 3)),.t (tI (cI p13 1 4)),.t (tI (cI p13 1 5)),AV.t
 (tI (cI p13 1 6)),.t (tI (cI p13 1 7)),.t (tI (cI p13 1 8)),.t (tI (cI p13 1 9)),.sref 0 (AJ p13 1 10) (AK p13 1 10) (AI p13 1 10),.t (.str (cS p13 1 11))],.box
 [.t (.str (cS p13 2 0)),.t (tI (cI p13 2 1)),.t (.bool ((gI y64 2) != 0))],.row false (AF p13 3) 3 (oEs p13 3),.box [.t (tI (cI p13 4 0)),.t (tI (cI p13 4
 1)),.t (tI (cI p13 4 2)),.t (tI (cI p13 4 3)),.t (tI (cI p13 4 4)),.t (tI (cI p13 4 5)),.t (tI (cI p13 4 6)),.t (tI (cI p13 4 7)),.t (tI (cI p13 4 8)),.t (tI (cI p13 4 9)),
 .sref 3 (AJ p13 4 10) (AK p13 4 10) (AI p13 4 10),.t (.str (cS p13 4 11))]]))) none) none) none) none) none) (cnd (vI p13 0=((3:Nat):Int)) (join (fun (p69:List AV×Heap)=>
 Vg n again14 p13 p69) fun (again70:_→Option (List Tree))=>cnd ((0:Int)≤cI p13 2 1∧cI p13 2 1≤((ByteArray.size (cS p13 2 0):Nat):Int)) (Option.bind (AB C n 83 [.str
 (ByteArray.extract (cS p13 2 0) (toNat (cI p13 2 1)) (ByteArray.size (cS p13 2 0)))]) fun y73=>cnd (length y73=3) (cnd (okI y73 0) (cnd (okI y73 1) (cnd (okI y73 2) (join (fun (p74
 : List AV×Heap)=>Vh n again70 y73 p74) fun (again75:_→Option (List Tree))=>join (fun (p76:List AV×Heap)=>Vi n again75 y73 p76) fun (again77:_→Option (List Tree))=>cnd (cB
 p13 2 2=true) (again77 ([],[.row false (AF p13 0) 3 (oEs p13 0),.box [.t (tI (cI p13 1 0)),.t (tI (cI p13 1 1)),.t (tI (cI p13 1 2)),.t (tI (cI p13 1 3)),.t (tI (cI
 p13 1 4)),.t (tI (cI p13 1 5)),.t (tI (cI p13 1 6)),.t (tI (cI p13 1 7)),.t (tI (cI p13 1 8)),.t (tI (cI p13 1 9)),.sref 0 (AJ p13 1 10) (AK p13 1 10) (AI p13 1 10),AV.t
 (Tree.str (cS p13 1 11))],.box [.t (.str (cS p13 2 0)),.t (tI (cI p13 2 1)),.t (.bool true)],.row false (AF p13 3) 3 (oEs p13 3),.box [.t (tI (cI p13 4 0)),
 .t (tI (cI p13 4 1)),.t (tI (cI p13 4 2)),.t (tI (cI p13 4 3)),.t (tI (cI p13 4 4)),.t (tI (cI p13 4 5)),.t (tI (cI p13 4 6)),.t (tI (cI p13 4 7)),.t (tI (cI p13 4 8)),.t (tI
 (cI p13 4 9)),.sref 3 (AJ p13 4 10) (AK p13 4 10) (AI p13 4 10),.t (.str (cS p13 4 11))]])) (again77 ([],[.row false (AF p13 0) 3 (oEs p13 0),.box [.t (tI (cI
 p13 1 0)),.t (tI (cI p13 1 1)),.t (tI (cI p13 1 2)),.t (tI (cI p13 1 3)),.t (tI (cI p13 1 4)),.t (tI (cI p13 1 5)),.t (tI (cI p13 1 6)),.t (tI (cI p13 1 7)),.t (tI (cI p13 1
 8)),.t (tI (cI p13 1 9)),.sref 0 (AJ p13 1 10) (AK p13 1 10) (AI p13 1 10),.t (.str (cS p13 1 11))],.box [.t (.str (cS p13 2 0)),.t (tI (cI p13 2 1)),AV.t
 (Tree.bool ((gI y73 2) != 0))],.row false (AF p13 3) 3 (oEs p13 3),.box [.t (tI (cI p13 4 0)),.t (tI (cI p13 4 1)),.t (tI (cI p13 4 2)),.t (tI (cI p13 4 3)),AV.t
 (tI (cI p13 4 4)),.t (tI (cI p13 4 5)),.t (tI (cI p13 4 6)),.t (tI (cI p13 4 7)),.t (tI (cI p13 4 8)),.t (tI (cI p13 4 9)),.sref 3 (AJ p13 4 10) (AK p13 4 10) (AI p13 4
 10),.t (.str (cS p13 4 11))]]))) none) none) none) none) none) (cnd (vI p13 0=((2:Nat):Int)) (join (fun (p78:List AV×Heap)=>Vd n again14 p13 p78) fun (again79:_→Option (List
 Tree))=>cnd ((0:Int)≤cI p13 2 1∧cI p13 2 1≤((ByteArray.size (cS p13 2 0):Nat):Int)) (Option.bind (AB C n 83 [.str (ByteArray.extract (cS p13 2 0) (toNat (cI p13 2 1))
 (ByteArray.size (cS p13 2 0)))]) fun y82=>cnd (length y82=3) (cnd (okI y82 0) (cnd (okI y82 1) (cnd (okI y82 2) (join (fun (p83:List AV×Heap)=>Ve n again79 y82 p83) fun
 (again84:_→Option (List Tree))=>join (fun (p85:List AV×Heap)=>Vf n again84 y82 p85) fun (again86:_→Option (List Tree))=>cnd (cB p13 2 2=true) (again86 ([],[.row false
 (AF p13 0) 3 (oEs p13 0),.box [.t (tI (cI p13 1 0)),.t (tI (cI p13 1 1)),.t (tI (cI p13 1 2)),.t (tI (cI p13 1 3)),.t (tI (cI p13 1 4)),.t (tI (cI p13 1 5)),.t (tI (cI
 p13 1 6)),.t (tI (cI p13 1 7)),.t (tI (cI p13 1 8)),.t (tI (cI p13 1 9)),.sref 0 (AJ p13 1 10) (AK p13 1 10) (AI p13 1 10),.t (.str (cS p13 1 11))],.box [AV.t
 (Tree.str (cS p13 2 0)),.t (tI (cI p13 2 1)),.t (.bool true)],.row false (AF p13 3) 3 (oEs p13 3),.box [.t (tI (cI p13 4 0)),.t (tI (cI p13 4 1)),.t (tI (cI p13 4
 2)),.t (tI (cI p13 4 3)),.t (tI (cI p13 4 4)),.t (tI (cI p13 4 5)),.t (tI (cI p13 4 6)),.t (tI (cI p13 4 7)),.t (tI (cI p13 4 8)),.t (tI (cI p13 4 9)),.sref 3 (AJ p13 4
 10) (AK p13 4 10) (AI p13 4 10),.t (.str (cS p13 4 11))]])) (again86 ([],[.row false (AF p13 0) 3 (oEs p13 0),.box [.t (tI (cI p13 1 0)),.t (tI (cI p13 1 1)),AV.t
 (tI (cI p13 1 2)),.t (tI (cI p13 1 3)),.t (tI (cI p13 1 4)),.t (tI (cI p13 1 5)),.t (tI (cI p13 1 6)),.t (tI (cI p13 1 7)),.t (tI (cI p13 1 8)),.t (tI (cI p13 1 9)),.sref
 0 (AJ p13 1 10) (AK p13 1 10) (AI p13 1 10),.t (.str (cS p13 1 11))],.box [.t (.str (cS p13 2 0)),.t (tI (cI p13 2 1)),.t (.bool ((gI y82 2) != 0))],
 .row false (AF p13 3) 3 (oEs p13 3),.box [.t (tI (cI p13 4 0)),.t (tI (cI p13 4 1)),.t (tI (cI p13 4 2)),.t (tI (cI p13 4 3)),.t (tI (cI p13 4 4)),.t (tI (cI p13 4
 5)),.t (tI (cI p13 4 6)),.t (tI (cI p13 4 7)),.t (tI (cI p13 4 8)),.t (tI (cI p13 4 9)),.sref 3 (AJ p13 4 10) (AK p13 4 10) (AI p13 4 10),.t (.str (cS p13 4 11))]])))
 none) none) none) none) none) (cnd (vI p13 0=((1:Nat):Int)) (join (fun (p87:List AV×Heap)=>Va n again14 p13 p87) fun (again88:_→Option (List Tree))=>cnd ((0:Int)≤cI p13 2 1∧cI
 p13 2 1≤((ByteArray.size (cS p13 2 0):Nat):Int)) (Option.bind (AB C n 83 [.str (ByteArray.extract (cS p13 2 0) (toNat (cI p13 2 1)) (ByteArray.size (cS p13 2 0)))]) fun y91=>cnd
 (length y91=3) (cnd (okI y91 0) (cnd (okI y91 1) (cnd (okI y91 2) (join (fun (p92:List AV×Heap)=>Vb n again88 y91 p92) fun (again93:_→Option (List Tree))=>join (fun (p94 :
 List AV×Heap)=>Vc n again93 y91 p94) fun (again95:_→Option (List Tree))=>cnd (cB p13 2 2=true) (again95 ([],[.row false (AF p13 0) 3 (oEs p13 0),.box [.t (tI (cI
 p13 1 0)),.t (tI (cI p13 1 1)),.t (tI (cI p13 1 2)),.t (tI (cI p13 1 3)),.t (tI (cI p13 1 4)),.t (tI (cI p13 1 5)),.t (tI (cI p13 1 6)),.t (tI (cI p13 1 7)),.t (tI (cI p13 1
 8)),.t (tI (cI p13 1 9)),.sref 0 (AJ p13 1 10) (AK p13 1 10) (AI p13 1 10),.t (.str (cS p13 1 11))],.box [.t (.str (cS p13 2 0)),.t (tI (cI p13 2 1)),AV.t
 (Tree.bool true)],.row false (AF p13 3) 3 (oEs p13 3),.box [.t (tI (cI p13 4 0)),.t (tI (cI p13 4 1)),.t (tI (cI p13 4 2)),.t (tI (cI p13 4 3)),.t (tI (cI p13 4 4)),
 .t (tI (cI p13 4 5)),.t (tI (cI p13 4 6)),.t (tI (cI p13 4 7)),.t (tI (cI p13 4 8)),.t (tI (cI p13 4 9)),.sref 3 (AJ p13 4 10) (AK p13 4 10) (AI p13 4 10),.t (.str
 (cS p13 4 11))]])) (again95 ([],[.row false (AF p13 0) 3 (oEs p13 0),.box [.t (tI (cI p13 1 0)),.t (tI (cI p13 1 1)),.t (tI (cI p13 1 2)),.t (tI (cI p13 1 3)),.t (tI
 (cI p13 1 4)),.t (tI (cI p13 1 5)),.t (tI (cI p13 1 6)),.t (tI (cI p13 1 7)),.t (tI (cI p13 1 8)),.t (tI (cI p13 1 9)),.sref 0 (AJ p13 1 10) (AK p13 1 10) (AI p13 1 10),
 .t (.str (cS p13 1 11))],.box [.t (.str (cS p13 2 0)),.t (tI (cI p13 2 1)),.t (.bool ((gI y91 2) != 0))],.row false (AF p13 3) 3 (oEs p13 3),.box
 [.t (tI (cI p13 4 0)),.t (tI (cI p13 4 1)),.t (tI (cI p13 4 2)),.t (tI (cI p13 4 3)),.t (tI (cI p13 4 4)),.t (tI (cI p13 4 5)),.t (tI (cI p13 4 6)),.t (tI (cI p13 4 7)),AV.t
 (tI (cI p13 4 8)),.t (tI (cI p13 4 9)),.sref 3 (AJ p13 4 10) (AK p13 4 10) (AI p13 4 10),.t (.str (cS p13 4 11))]]))) none) none) none) none) none) (cnd (vI p13 0 =
 ((0:Nat):Int)) (join (fun (p96:List AV×Heap)=>VX n again14 p13 p96) fun (again97:_→Option (List Tree))=>cnd ((0:Int)≤cI p13 2 1∧cI p13 2 1≤((ByteArray.size (cS p13 2
 0):Nat):Int)) (Option.bind (AB C n 83 [.str (ByteArray.extract (cS p13 2 0) (toNat (cI p13 2 1)) (ByteArray.size (cS p13 2 0)))]) fun y100=>cnd (length y100=3) (cnd
 (okI y100 0) (cnd (okI y100 1) (cnd (okI y100 2) (join (fun (p101:List AV×Heap)=>VY n again97 y100 p101) fun (again102:_→Option (List Tree))=>join (fun (p103:List AV×Heap)=>
 VZ n again102 y100 p103) fun (again104:_→Option (List Tree))=>cnd (cB p13 2 2=true) (again104 ([],[.row false (AF p13 0) 3 (oEs p13 0),.box [.t (tI (cI p13 1 0)),AV.t
 (tI (cI p13 1 1)),.t (tI (cI p13 1 2)),.t (tI (cI p13 1 3)),.t (tI (cI p13 1 4)),.t (tI (cI p13 1 5)),.t (tI (cI p13 1 6)),.t (tI (cI p13 1 7)),.t (tI (cI p13 1 8)),.t (tI (cI
 p13 1 9)),.sref 0 (AJ p13 1 10) (AK p13 1 10) (AI p13 1 10),.t (.str (cS p13 1 11))],.box [.t (.str (cS p13 2 0)),.t (tI (cI p13 2 1)),.t (.bool true)],
 .row false (AF p13 3) 3 (oEs p13 3),.box [.t (tI (cI p13 4 0)),.t (tI (cI p13 4 1)),.t (tI (cI p13 4 2)),.t (tI (cI p13 4 3)),.t (tI (cI p13 4 4)),.t (tI (cI p13 4
 5)),.t (tI (cI p13 4 6)),.t (tI (cI p13 4 7)),.t (tI (cI p13 4 8)),.t (tI (cI p13 4 9)),.sref 3 (AJ p13 4 10) (AK p13 4 10) (AI p13 4 10),.t (.str (cS p13 4 11))]]))
 (again104 ([],[.row false (AF p13 0) 3 (oEs p13 0),.box [.t (tI (cI p13 1 0)),.t (tI (cI p13 1 1)),.t (tI (cI p13 1 2)),.t (tI (cI p13 1 3)),.t (tI (cI p13 1 4)),AV.t
 (tI (cI p13 1 5)),.t (tI (cI p13 1 6)),.t (tI (cI p13 1 7)),.t (tI (cI p13 1 8)),.t (tI (cI p13 1 9)),.sref 0 (AJ p13 1 10) (AK p13 1 10) (AI p13 1 10),.t (.str (cS
 p13 1 11))],.box [.t (.str (cS p13 2 0)),.t (tI (cI p13 2 1)),.t (.bool ((gI y100 2) != 0))],.row false (AF p13 3) 3 (oEs p13 3),.box [.t (tI (cI p13 4
 0)),.t (tI (cI p13 4 1)),.t (tI (cI p13 4 2)),.t (tI (cI p13 4 3)),.t (tI (cI p13 4 4)),.t (tI (cI p13 4 5)),.t (tI (cI p13 4 6)),.t (tI (cI p13 4 7)),.t (tI (cI p13 4 8)),
 .t (tI (cI p13 4 9)),.sref 3 (AJ p13 4 10) (AK p13 4 10) (AI p13 4 10),.t (.str (cS p13 4 11))]]))) none) none) none) none) none) none)))))))))) none) (cnd ((0:Int)≤cI p13 2
 1∧cI p13 2 1≤((ByteArray.size (cS p13 2 0):Nat):Int)) (Option.bind (AB C n 93 [.str (ByteArray.extract (cS p13 2 0) (toNat (cI p13 2 1)) (ByteArray.size (cS p13 2 0)))]) fun y107
 =>cnd (length y107=3) (cnd (okL 3 y107 0) (cnd (okI y107 1) (cnd (okI y107 2) (join (fun (p108:List AV×Heap)=>VS n y107 p108) fun (again109:_→Option (List Tree))=>join
 (fun (p110:List AV×Heap)=>VW n again109 y107 p110) fun (again111:_→Option (List Tree))=>cnd (cB p13 2 2=true) (again111 ([],[.row false (AF p13 0) 3 (oEs p13 0),
 .box [.t (tI (cI p13 1 0)),.t (tI (cI p13 1 1)),.t (tI (cI p13 1 2)),.t (tI (cI p13 1 3)),.t (tI (cI p13 1 4)),.t (tI (cI p13 1 5)),.t (tI (cI p13 1 6)),.t (tI (cI p13 1
 7)),.t (tI (cI p13 1 8)),.t (tI (cI p13 1 9)),.sref 0 (AJ p13 1 10) (AK p13 1 10) (AI p13 1 10),.t (.str (cS p13 1 11))],.box [.t (.str (cS p13 2 0)),.t (tI
 (cI p13 2 1)),.t (.bool true)],.row false (AF p13 3) 3 (oEs p13 3),.box [.t (tI (cI p13 4 0)),.t (tI (cI p13 4 1)),.t (tI (cI p13 4 2)),.t (tI (cI p13 4 3)),AV.t
 (tI (cI p13 4 4)),.t (tI (cI p13 4 5)),.t (tI (cI p13 4 6)),.t (tI (cI p13 4 7)),.t (tI (cI p13 4 8)),.t (tI (cI p13 4 9)),.sref 3 (AJ p13 4 10) (AK p13 4 10) (AI p13 4
 10),.t (.str (cS p13 4 11))]])) (again111 ([],[.row false (AF p13 0) 3 (oEs p13 0),.box [.t (tI (cI p13 1 0)),.t (tI (cI p13 1 1)),.t (tI (cI p13 1 2)),.t (tI (cI
 p13 1 3)),.t (tI (cI p13 1 4)),.t (tI (cI p13 1 5)),.t (tI (cI p13 1 6)),.t (tI (cI p13 1 7)),.t (tI (cI p13 1 8)),.t (tI (cI p13 1 9)),.sref 0 (AJ p13 1 10) (AK p13 1
 10) (AI p13 1 10),.t (.str (cS p13 1 11))],.box [.t (.str (cS p13 2 0)),.t (tI (cI p13 2 1)),.t (.bool ((gI y107 2) != 0))],.row false (AF p13 3) 3
 (oEs p13 3),.box [.t (tI (cI p13 4 0)),.t (tI (cI p13 4 1)),.t (tI (cI p13 4 2)),.t (tI (cI p13 4 3)),.t (tI (cI p13 4 4)),.t (tI (cI p13 4 5)),.t (tI (cI p13 4 6)),.t (tI
 (cI p13 4 7)),.t (tI (cI p13 4 8)),.t (tI (cI p13 4 9)),.sref 3 (AJ p13 4 10) (AK p13 4 10) (AI p13 4 10),.t (.str (cS p13 4 11))]]))) none) none) none) none) none)
noncomputable def VR (n:Nat)  (p2:List AV×Heap):Option (List Tree):=
 cnd (vB p2 0=true) none (AH (fun (p13:List AV×Heap) (again14:_→Option (List Tree))=>Lq n p13 again14) n ([.t (tI 0)],[.row false (AF p2 0) 3 (oEs p2 0),
 .box [.t (tI (cI p2 1 0)),.t (tI (cI p2 1 1)),.t (tI (cI p2 1 2)),.t (tI (cI p2 1 3)),.t (tI (cI p2 1 4)),.t (tI (cI p2 1 5)),.t (tI (cI p2 1 6)),.t (tI (cI p2 1 7)),AV.t
 (tI (cI p2 1 8)),.t (tI (cI p2 1 9)),.sref 0 (AJ p2 1 10) (AK p2 1 10) (AI p2 1 10),.t (.str (cS p2 1 11))],.box [.t (.str (cS p2 2 0)),.t (tI (cI p2 2 1)),AV.t
 (Tree.bool (cB p2 2 2))],.row false (AF p2 3) 3 (oEs p2 3),.box [.t (tI (cI p2 4 0)),.t (tI (cI p2 4 1)),.t (tI (cI p2 4 2)),.t (tI (cI p2 4 3)),.t (tI (cI p2 4 4)),
 .t (tI (cI p2 4 5)),.t (tI (cI p2 4 6)),.t (tI (cI p2 4 7)),.t (tI (cI p2 4 8)),.t (tI (cI p2 4 9)),.sref 3 (AJ p2 4 10) (AK p2 4 10) (AI p2 4 10),.t (.str (cS p2 4
 11))]]))
theorem e16 (n:Nat) (a0:ByteArray):AB C (n+1) 16 [.str a0]=
 Option.bind (AB C n 41 [.str a0]) fun y1=>cnd (length y1=3) (cnd (okS y1 0) (cnd (okI y1 1) (cnd (okI y1 2) (cnd (((gI y1 2) != 0)=true) none (join (fun (p2:List
 AV×Heap)=>VR n p2) fun (again3:_→Option (List Tree))=>cnd ((0:Int)≤0∧(0:Int)≤((ByteArray.size (gS y1 0):Nat):Int)) (Option.bind (AB C n 84 [.str
 (ByteArray.extract (gS y1 0) 0 (ByteArray.size (gS y1 0)))]) fun y8=>cnd (length y8=3) (cnd (okS y8 0) (cnd (okI y8 1) (cnd (okI y8 2) (cnd ((!((gI y8 2) != 0))=true) (cnd
 (((gS y8 0) != (ByteArray.mk #[77,66,49]))=true) (again3 ([.t (.bool true)],[.row false 0 3 [],.box [.t (tI 0),.t (tI 0),.t (tI 0),.t (tI
 (0:Int)),.t (tI 0),.t (tI 0),.t (tI 0),.t (tI 0),.t (tI 0),.t (tI 0),.sref 0 0 0 0,.t (.str (ByteArray.mk
 #[]))],.box [.t (.str (gS y1 0)),.t (tI (w64 ((0:Int)+(gI y8 1)))),.t (.bool ((gI y8 2) != 0))],.row false 0 3 [],.box [.t (tI 0),.t (tI
 (0:Int)),.t (tI 0),.t (tI 0),.t (tI 0),.t (tI 0),.t (tI 0),.t (tI 0),.t (tI 0),.t (tI 0),.sref 3 0 0
 0,.t (.str (ByteArray.mk #[]))]])) (again3 ([.t (.bool ((gI y1 1) != ((ByteArray.size a0:Nat):Int)))],[.row false 0 3 [],.box [.t (tI 0),.t (tI
 (0:Int)),.t (tI 0),.t (tI 0),.t (tI 0),.t (tI 0),.t (tI 0),.t (tI 0),.t (tI 0),.t (tI 0),.sref 0 0 0
 0,.t (.str (ByteArray.mk #[]))],.box [.t (.str (gS y1 0)),.t (tI (w64 ((0:Int)+(gI y8 1)))),.t (.bool ((gI y8 2) != 0))],.row false 0 3 [],
 .box [.t (tI 0),.t (tI 0),.t (tI 0),.t (tI 0),.t (tI 0),.t (tI 0),.t (tI 0),.t (tI 0),.t (tI 0),.t (tI 0),
 .sref 3 0 0 0,.t (.str (ByteArray.mk #[]))]]))) none) none) none) none) none) none)) none) none) none) none:=by kernel_rfl
theorem e17 (n:Nat) (a0:Int) (a1:Int) (a2:Int) (a3:Int) (a4:Int) (a5:Int) (a6:Int) (a7:Int) (a8:Int) (a9:Int) (a10:List (List Tree)) (a11:ByteArray) (a12:Int) (a13:Int) (a14:Int) (a15:Int) (a16:Int) (a17:Int) (a18:Int) (a19:Int) (a20:Int) (a21:Int) (a22:List (List Tree)) (a23:ByteArray):AB C (n+1) 17 [tI a0,tI a1,tI a2,tI a3,tI a4,tI a5,tI a6,tI a7,tI a8,tI a9,.sl 3 a10,.str a11,tI a12,tI a13,tI a14,tI a15,tI a16,tI a17,tI a18,tI a19,tI a20,tI a21,.sl 3 a22,.str a23]=
 cnd ((((((a0==a12)&&(a1==a13))&&(a2==a14))&&(a3==a15))&&(a4==a16))=true) (cnd (((a5==a17)&&(a6==a18))=true) (cnd ((a7==a19)=true) (cnd ((a8==a20)=true) (cnd ((a9 ==
 a21)=true) (Option.bind (AB C n 52 [.sl 3 a10,.sl 3 a22]) fun y26=>cnd (length y26=1) (cnd (okB y26 0) (cnd (gB y26 0=true) (some [.bool (a11 ==
 a23)]) (some [.bool false])) none) none) (some [.bool false])) (some [.bool false])) (some [.bool false])) (some [.bool false])) (some [.bool false]):=by kernel_rfl
theorem e18 (n:Nat) (a0:Int) (a1:Int) (a2:Int) (a3:Int) (a4:Int) (a5:Int) (a6:Int) (a7:Int) (a8:Int) (a9:Int) (a10:List (List Tree)) (a11:ByteArray):AB C (n+1) 18 [tI a0,tI a1,tI a2,tI a3,tI a4,tI a5,tI a6,tI a7,tI a8,tI a9,.sl 3 a10,.str a11]=
 Option.bind (AB C n 29 [tI a0,tI a1,tI a2,tI a3,tI a4,tI a5,tI a6,tI a7,tI a8,tI a9,.sl 3 a10,.str a11]) fun y12=>cnd (length y12=1) (cnd (okI y12 0)
 (cnd (((gI y12 0) != 0)=true) (some [tI 0]) (some [tI (w64 (a1+a7))])) none) none:=by kernel_rfl
noncomputable def U9 (n:Nat) (a0:ByteArray) (p1:List AV×Heap) (again2:(List AV×Heap)→Option (List Tree)):Option (List Tree):=
 cnd ((0:Int)≤vI p1 1∧vI p1 1≤((ByteArray.size a0:Nat):Int)) (Option.bind (AB C n 57 [.str (ByteArray.extract a0 (toNat (vI p1 1)) (ByteArray.size a0))]) fun y3=>cnd
 (length y3=21) (cnd (okI y3 0) (cnd (okI y3 1) (cnd (okI y3 2) (cnd (okI y3 3) (cnd (okI y3 4) (cnd (okI y3 5) (cnd (okI y3 6) (cnd (okI y3 7) (cnd (okI y3 8) (cnd (okI y3 9) (cnd (okB y3
 10) (cnd (okS y3 11) (cnd (okI y3 12) (cnd (okI y3 13) (cnd (okI y3 14) (cnd (okI y3 15) (cnd (okI y3 16) (cnd (okI y3 17) (cnd (okI y3 18) (cnd (okI y3 19) (cnd (okB y3 20) (cnd ((!(gB y3 20))=
 true) (cnd ((false=true∨false=false)∧AF p1 0=Ar p1 0∧(19=19∨19=0)) (some [.sl 19 (take (AR p1 0) (drop (A1 p1 0) (oEs p1 0))),tI
 (vI p1 1),tI 0]) none) (cnd (AF p1 0=Ar p1 0∧(19=19∨19=0)∧(A1 p1 0)+(AR p1 0)≤length (oEs p1 0)∧(AR p1 0)+1≤1073741824)
 (again2 ([.sref 0 ((Ar p1 0)+1) 0 ((AR p1 0)+1),.t (tI (w64 ((vI p1 1)+(gI y3 19))))],[.row false ((Ar p1 0)+1) 19 ((take (AR p1 0)
 (drop (A1 p1 0) (oEs p1 0)))++[[tI (gI y3 0),tI (gI y3 1),tI (gI y3 2),tI (gI y3 3),tI (gI y3 4),tI (gI y3 5),tI (gI y3 6),tI (gI y3 7),tI (gI y3 8),tI (gI y3 9),.bool (gB y3
 10),.str (gS y3 11),tI (gI y3 12),tI (gI y3 13),tI (gI y3 14),tI (gI y3 15),tI (gI y3 16),tI (gI y3 17),tI (gI y3 18)]])])) none)) none) none) none) none) none) none) none) none) none)
 none) none) none) none) none) none) none) none) none) none) none) none) none) none
theorem e20 (n:Nat) (a0:ByteArray):AB C (n+1) 20 [.str a0]=
 cnd (decide (((ByteArray.size a0:Nat):Int)>65536)=true) none (AH (fun (p1:List AV×Heap) (again2:_→Option (List Tree))=>U9 n a0 p1 again2) n ([.sref 0 0
 0 0,.t (tI 0)],[.row false 0 19 []])):=by kernel_rfl
noncomputable def U8 (n:Nat) (a0:List (List Tree)) (again4:(List AV×Heap)→Option (List Tree)) (p5:List AV×Heap) (again6:(List AV×Heap)→Option (List Tree)):Option (List Tree):=
 cnd (decide (vI p5 0<((length a0:Nat):Int))=true) (cnd (19=19∧(0:Int)≤vI p5 0) (Option.bind a0[toNat (vI p5 0)]? fun y7=>cnd (okI y7 0) (cnd (okI y7 1) (cnd (okI y7 2)
 (cnd (okI y7 3) (cnd (okI y7 4) (cnd (okI y7 5) (cnd (okI y7 6) (cnd (okI y7 7) (cnd (okI y7 8) (cnd (okI y7 9) (cnd (okB y7 10) (cnd (okS y7 11) (cnd (okI y7 12) (cnd (okI y7 13) (cnd (okI y7 14)
 (cnd (okI y7 15) (cnd (okI y7 16) (cnd (okI y7 17) (cnd (okI y7 18) (Option.bind (AB C n 59 [tI (gI y7 0),tI (gI y7 1),tI (gI y7 2),tI (gI y7 3),tI (gI y7 4),tI (gI y7 5),tI (gI y7 6),
 tI (gI y7 7),tI (gI y7 8),tI (gI y7 9),.bool (gB y7 10),.str (gS y7 11),tI (gI y7 12),tI (gI y7 13),tI (gI y7 14),tI (gI y7 15),tI (gI y7 16),tI (gI y7 17),tI (gI y7 18)]) fun y8=>
 cnd (length y8=1) (cnd (okB y8 0) (cnd (gB y8 0=true) (again4 ([.t (tI (vI p5 0))],[.box [.t (.sl 11 (cL p5 0 0)),.t (.sl 11 (cL p5 0 1))]])) (again6
 ([.t (tI (w64 ((vI p5 0)+1)))],[.box [.t (.sl 11 (cL p5 0 0)),.t (.sl 11 (cL p5 0 1))]]))) none) none) none) none) none) none) none) none) none) none) none)
 none) none) none) none) none) none) none) none) none) none) none) (again4 ([.t (tI (-1))],[.box [.t (.sl 11 (cL p5 0 0)),.t (.sl 11 (cL p5 0 1))]]))
noncomputable def J21_2 (n:Nat) (again2:(List AV×Heap)→Option (List Tree)) (p3:List AV×Heap):Option (List Tree):=
 again2 ([.t (.bool (decide (vI p3 0≥(0:Int))))],[.box [.t (.sl 11 (cL p3 0 0)),.t (.sl 11 (cL p3 0 1))]])
noncomputable def U7 (n:Nat) (a0:List (List Tree)) (p9:List AV×Heap) (again10:(List AV×Heap)→Option (List Tree)):Option (List Tree):=
 cnd (decide (vI p9 0<((length a0:Nat):Int))=true) (cnd (19=19∧(0:Int)≤vI p9 0) (Option.bind a0[toNat (vI p9 0)]? fun y11=>cnd (okI y11 0) (cnd (okI y11 1) (cnd (okI
 y11 2) (cnd (okI y11 3) (cnd (okI y11 4) (cnd (okI y11 5) (cnd (okI y11 6) (cnd (okI y11 7) (cnd (okI y11 8) (cnd (okI y11 9) (cnd (okB y11 10) (cnd (okS y11 11) (cnd (okI y11 12) (cnd (okI y11 13)
 (cnd (okI y11 14) (cnd (okI y11 15) (cnd (okI y11 16) (cnd (okI y11 17) (cnd (okI y11 18) (cnd ((0:Int)≤gI y11 0∧gI y11 0<5) (cnd (gI y11 0=((4:Nat):Int)) (Option.bind (AB C n
 107 [.sl 11 (cL p9 1 0),.sl 11 (cL p9 1 1),tI (gI y11 0),tI (gI y11 1),tI (gI y11 2),tI (gI y11 3),tI (gI y11 4),tI (gI y11 5),tI (gI y11 6),tI (gI y11 7),tI (gI
 y11 8),tI (gI y11 9),.bool (gB y11 10),.str (gS y11 11),tI (gI y11 12),tI (gI y11 13),tI (gI y11 14),tI (gI y11 15),tI (gI y11 16),tI (gI y11 17),tI (gI y11 18)]) fun y12=>cnd
 (length y12=2) (cnd (okL 11 y12 0) (cnd (okL 11 y12 1) (DM (.box [.t (.const Value.nilFunc),.func (Fn.func 101) [] [],.func (Fn.func 103) [] [],.func (Fn.func 106) []
 [],.func (Fn.func 107) [] []]) (.box [.t (.const Value.nilFunc),.func (Fn.func 101) [] [],.func (Fn.func 103) [] [],.func (Fn.func 106) [] [],.func (Fn.func 107) [] []])
 (again10 ([.t (tI (w64 ((vI p9 0)+1)))],[.box [.t (.sl 11 (cL p9 0 0)),.t (.sl 11 (cL p9 0 1))],.box [.t (.sl 11 (gL y12 0)),.t (.sl
 11 (gL y12 1))],.box []]))) none) none) none) (cnd (gI y11 0=((3:Nat):Int)) (Option.bind (AB C n 106 [.sl 11 (cL p9 1 0),.sl 11 (cL p9 1 1),tI (gI y11 0),
 tI (gI y11 1),tI (gI y11 2),tI (gI y11 3),tI (gI y11 4),tI (gI y11 5),tI (gI y11 6),tI (gI y11 7),tI (gI y11 8),tI (gI y11 9),.bool (gB y11 10),.str (gS y11 11),tI (gI y11 12),tI
 (gI y11 13),tI (gI y11 14),tI (gI y11 15),tI (gI y11 16),tI (gI y11 17),tI (gI y11 18)]) fun y13=>cnd (length y13=2) (cnd (okL 11 y13 0) (cnd (okL 11 y13 1) (DM (.box [AV.t
 (Tree.const Value.nilFunc),.func (Fn.func 101) [] [],.func (Fn.func 103) [] [],.func (Fn.func 106) [] [],.func (Fn.func 107) [] []]) (.box [.t (.const Value.nilFunc),.func
 (Fn.func 101) [] [],.func (Fn.func 103) [] [],.func (Fn.func 106) [] [],.func (Fn.func 107) [] []]) (again10 ([.t (tI (w64 ((vI p9 0)+1)))],[.box [.t (.sl 11 (cL p9
 0 0)),.t (.sl 11 (cL p9 0 1))],.box [.t (.sl 11 (gL y13 0)),.t (.sl 11 (gL y13 1))],.box []]))) none) none) none) (cnd (gI y11 0=((2:Nat):Int))
 (Option.bind (AB C n 103 [.sl 11 (cL p9 1 0),.sl 11 (cL p9 1 1),tI (gI y11 0),tI (gI y11 1),tI (gI y11 2),tI (gI y11 3),tI (gI y11 4),tI (gI y11 5),tI (gI y11 6),
 tI (gI y11 7),tI (gI y11 8),tI (gI y11 9),.bool (gB y11 10),.str (gS y11 11),tI (gI y11 12),tI (gI y11 13),tI (gI y11 14),tI (gI y11 15),tI (gI y11 16),tI (gI y11 17),tI (gI y11
 18)]) fun y14=>cnd (length y14=2) (cnd (okL 11 y14 0) (cnd (okL 11 y14 1) (DM (.box [.t (.const Value.nilFunc),.func (Fn.func 101) [] [],.func (Fn.func 103) [] [],
 .func (Fn.func 106) [] [],.func (Fn.func 107) [] []]) (.box [.t (.const Value.nilFunc),.func (Fn.func 101) [] [],.func (Fn.func 103) [] [],.func (Fn.func 106) [] [],.func
 (Fn.func 107) [] []]) (again10 ([.t (tI (w64 ((vI p9 0)+1)))],[.box [.t (.sl 11 (cL p9 0 0)),.t (.sl 11 (cL p9 0 1))],.box [.t (.sl 11 (gL y14
 0)),.t (.sl 11 (gL y14 1))],.box []]))) none) none) none) (cnd (gI y11 0=((1:Nat):Int)) (Option.bind (AB C n 101 [.sl 11 (cL p9 1 0),.sl 11 (cL p9 1
 1),tI (gI y11 0),tI (gI y11 1),tI (gI y11 2),tI (gI y11 3),tI (gI y11 4),tI (gI y11 5),tI (gI y11 6),tI (gI y11 7),tI (gI y11 8),tI (gI y11 9),.bool (gB y11 10),.str (gS y11 11),
 tI (gI y11 12),tI (gI y11 13),tI (gI y11 14),tI (gI y11 15),tI (gI y11 16),tI (gI y11 17),tI (gI y11 18)]) fun y15=>cnd (length y15=2) (cnd (okL 11 y15 0) (cnd (okL 11 y15 1)
 (DM (.box [.t (.const Value.nilFunc),.func (Fn.func 101) [] [],.func (Fn.func 103) [] [],.func (Fn.func 106) [] [],.func (Fn.func 107) [] []]) (.box [.t (.const
 Value.nilFunc),.func (Fn.func 101) [] [],.func (Fn.func 103) [] [],.func (Fn.func 106) [] [],.func (Fn.func 107) [] []]) (again10 ([.t (tI (w64 ((vI p9 0)+1)))],[.box [AV.t
 (Tree.sl 11 (cL p9 0 0)),.t (.sl 11 (cL p9 0 1))],.box [.t (.sl 11 (gL y15 0)),.t (.sl 11 (gL y15 1))],.box []]))) none) none) none) (cnd (gI y11
 0=((0:Nat):Int)) none none))))) none) none) none) none) none) none) none) none) none) none) none) none) none) none) none) none) none) none) none) none) none) (some [.sl 11 (cL p9 1 0),
 Tree.sl 11 (cL p9 1 1),tI 0])
noncomputable def J21_4 (n:Nat) (a0:List (List Tree)) (p1:List AV×Heap):Option (List Tree):=
 cnd (vB p1 0=true) (some [.sl 11 [],.sl 11 [],tI 1]) (DM (.box [.t (.const Value.nilFunc),.func (Fn.func 101) [] [],.func (Fn.func 103) [] [],.func
 (Fn.func 106) [] [],.func (Fn.func 107) [] []]) (.box [.t (.const Value.nilFunc),.func (Fn.func 101) [] [],.func (Fn.func 103) [] [],.func (Fn.func 106) [] [],.func (Fn.func
 107) [] []]) (AH (fun (p9:List AV×Heap) (again10:_→Option (List Tree))=>U7 n a0 p9 again10) n ([.t (tI 0)],[.box [.t (.sl 11 (cL p1 0 0)),.t (.sl
 11 (cL p1 0 1))],.box [.t (.sl 11 []),.t (.sl 11 [])],.box []])))
theorem e21 (n:Nat) (a0:List (List Tree)):AB C (n+1) 21 [.sl 19 a0]=
 join (fun (p1:List AV×Heap)=>J21_4 n a0 p1) fun (again2:_→Option (List Tree))=>join (fun (p3:List AV×Heap)=>J21_2 n again2 p3) fun (again4:_→Option (List Tree))=>AH (fun
 (p5:List AV×Heap) (again6:_→Option (List Tree))=>U8 n a0 again4 p5 again6) n ([.t (tI 0)],[.box [.t (.sl 11 []),.t (.sl 11 [])]]):=by kernel_rfl
noncomputable def J22_1 (n:Nat) (a4:Int) (a3:Int) (p5:List AV×Heap):Option (List Tree):=
 cnd (vB p5 0=true) (some [.bool false]) (cnd ((a4==0)=true) (some [.bool (a3==0)]) (cnd (decide (a4≥(1:Int))=true) (cnd (decide (a4≤4096)=true) (cnd (decide
 (a3≥(0:Int))=true) (some [.bool (decide (a3<a4))]) (some [.bool false])) (some [.bool false])) (some [.bool false])))
theorem e22 (n:Nat) (a0:Int) (a1:Int) (a2:Int) (a3:Int) (a4:Int):AB C (n+1) 22 [tI a0,tI a1,tI a2,tI a3,tI a4]=
 join (fun (p5:List AV×Heap)=>J22_1 n a4 a3 p5) fun (again6:_→Option (List Tree))=>cnd (decide (a0<0)=true) (again6 ([.t (.bool true)],[])) (cnd (decide (a0≥(16:Int))=
 true) (again6 ([.t (.bool true)],[])) (Option.bind (AB C n 62 [tI a1]) fun y7=>cnd (length y7=1) (cnd (okB y7 0) (cnd ((!(gB y7 0))=true) (again6 ([.t (.bool
 true)],[])) (Option.bind (AB C n 62 [tI a2]) fun y8=>cnd (length y8=1) (cnd (okB y8 0) (again6 ([.t (.bool (!(gB y8 0)))],[])) none) none)) none) none)):=by kernel_rfl
noncomputable def J23_1 (n:Nat) (a1:Int) (a0:Int) (p2:List AV×Heap):Option (List Tree):=
 cnd (vB p2 0=true) (some [tI 8]) (cnd (decide (a1<0)=true) (some [tI 2]) (cnd ((a0==1)=true) (cnd (decide (a1≥(16:Int))=true) (some [tI 2]) (cnd ((a0 ==
 (2:Int))=true) (cnd (decide (a1≥(8:Int))=true) (some [tI 2]) (some [tI 0])) (some [tI 0]))) (cnd ((a0==2)=true) (cnd (decide (a1≥(8:Int))=true) (some [tI
 (2:Int)]) (some [tI 0])) (some [tI 0]))))
theorem e23 (n:Nat) (a0:Int) (a1:Int):AB C (n+1) 23 [tI a0,tI a1]=
 join (fun (p2:List AV×Heap)=>J23_1 n a1 a0 p2) fun (again3:_→Option (List Tree))=>cnd ((a0 != 1)=true) (again3 ([.t (.bool (a0 != 2))],[])) (again3 ([.t (.bool
 false)],[])):=by kernel_rfl
theorem e24 (n:Nat) (a0:Int) (a1:Int) (a2:Int) (a3:Int) (a4:Int) (a5:Int) (a6:Int) (a7:Int) (a8:Int) (a9:Int) (a10:List (List Tree)) (a11:ByteArray):AB C (n+1) 24 [tI a0,tI a1,tI a2,tI a3,tI a4,tI a5,tI a6,tI a7,tI a8,tI a9,.sl 3 a10,.str a11]=
 cnd (decide (a9<0)=true) (some [.bool false]) (cnd (decide (a9>127)=true) (some [.bool false]) (Option.bind (AB C n 63 [tI a9,tI 4]) fun y14=>cnd
 (length y14=1) (cnd (okB y14 0) (cnd (gB y14 0=true) (Option.bind (AB C n 63 [tI a9,tI 64]) fun y15=>cnd (length y15=1) (cnd (okB y15 0) (cnd (gB y15 0 =
 true) (some [.bool false]) (cnd ((a4==0)=true) (some [.bool true]) (Option.bind (AB C n 63 [tI a9,tI 2]) fun y21=>cnd (length y21=1) (cnd (okB y21 0)
 (some [.bool (!(gB y21 0))]) none) none))) none) none) (cnd ((a4==0)=true) (some [.bool true]) (Option.bind (AB C n 63 [tI a9,tI 2]) fun y24=>cnd (length y24 =
 1) (cnd (okB y24 0) (some [.bool (!(gB y24 0))]) none) none))) none) none)):=by kernel_rfl
noncomputable def Pe (n:Nat) (a0:List (List Tree)) (p5:List AV×Heap) (again6:(List AV×Heap)→Option (List Tree)):Option (List Tree):=
 cnd (decide (vI p5 0<((length a0:Nat):Int))=true) (cnd (3=3∧(0:Int)≤vI p5 0) (Option.bind a0[toNat (vI p5 0)]? fun y7=>cnd (okI y7 0) (cnd (3=3∧(0:Int)
 ≤w64 ((vI p5 0)-(1:Int))) (Option.bind a0[toNat (w64 ((vI p5 0)-(1:Int)))]? fun y8=>cnd (okI y8 0) (cnd (decide (gI y7 0≤gI y8 0)=true) (some [tI 9]) (again6 ([.t (tI (w64 ((vI
 p5 0)+1)))],[]))) none) none) none) none) (some [tI 0])
noncomputable def Rq (n:Nat) (a0:List (List Tree)) (p1:List AV×Heap) (again2:(List AV×Heap)→Option (List Tree)):Option (List Tree):=
 cnd (decide (vI p1 0<((length a0:Nat):Int))=true) (cnd (3=3∧(0:Int)≤vI p1 0) (Option.bind a0[toNat (vI p1 0)]? fun y3=>cnd (okI y3 0) (cnd (okI y3 1) (cnd (okS y3 2)
 (Option.bind (AB C n 64 [tI (gI y3 0),tI (gI y3 1),.str (gS y3 2)]) fun y4=>cnd (length y4=1) (cnd (okI y4 0) (cnd (((gI y4 0) != 0)=true) (some [tI (gI y4 0)])
 (again2 ([.t (tI (w64 ((vI p1 0)+1)))],[]))) none) none) none) none) none) none) (AH (fun (p5:List AV×Heap) (again6:_→Option (List Tree))=>Pe n a0 p5 again6) n ([.t (tI
 (1:Int))],[]))
theorem e25 (n:Nat) (a0:List (List Tree)):AB C (n+1) 25 [.sl 3 a0]=
 cnd (decide (((length a0:Nat):Int)>8)=true) (some [tI 4]) (AH (fun (p1:List AV×Heap) (again2:_→Option (List Tree))=>Rq n a0 p1 again2) n ([.t (tI 0)],
 [])):=by kernel_rfl
noncomputable def J29_1 (n:Nat) (a8:Int) (a0:Int) (a1:Int) (a2:Int) (a3:Int) (a4:Int) (a5:Int) (a6:Int) (a7:Int) (a9:Int) (a10:List (List Tree)) (a11:ByteArray) (p14:List AV×Heap):Option (List Tree):=
 cnd (vB p14 0=true) (some [tI 2]) (Option.bind (AB C n 71 [tI a8,tI 0,tI 2]) fun y16=>cnd (length y16=1) (cnd (okB y16 0) (cnd ((!(gB y16 0))=true)
 (some [tI 8]) (Option.bind (AB C n 72 [tI a0,tI a1,tI a2,tI a3,tI a4,tI a5,tI a6,tI a7,tI a8,tI a9,.sl 3 a10,.str a11]) fun y17=>cnd (length y17 =
 1) (cnd (okI y17 0) (cnd (((gI y17 0) != 0)=true) (some [tI (gI y17 0)]) (Option.bind (AB C n 73 [.sl 3 a10]) fun y18=>cnd (length y18=1) (cnd (okI y18
 0) (cnd (((gI y18 0) != 0)=true) (some [tI (gI y18 0)]) (Option.bind (AB C n 74 [tI a0,tI a1,tI a2,tI a3,tI a4,tI a5,tI a6,tI a7,tI a8,tI a9,.sl 3 a10,.str
 a11]) fun y19=>cnd (length y19=1) (cnd (okI y19 0) (some [tI (gI y19 0)]) none) none)) none) none)) none) none)) none) none)
theorem e29 (n:Nat) (a0:Int) (a1:Int) (a2:Int) (a3:Int) (a4:Int) (a5:Int) (a6:Int) (a7:Int) (a8:Int) (a9:Int) (a10:List (List Tree)) (a11:ByteArray):AB C (n+1) 29 [tI a0,tI a1,tI a2,tI a3,tI a4,tI a5,tI a6,tI a7,tI a8,tI a9,.sl 3 a10,.str a11]=
 Option.bind (AB C n 69 [tI a0,tI a1,tI a2,tI a3,tI a4]) fun y12=>cnd (length y12=1) (cnd (okI y12 0) (cnd (((gI y12 0) != 0)=true) (some [tI (gI y12 0)])
 (Option.bind (AB C n 70 [tI a5,tI a6]) fun y13=>cnd (length y13=1) (cnd (okI y13 0) (cnd (((gI y13 0) != 0)=true) (some [tI (gI y13 0)]) (join (fun (p14:List AV ×
 Heap)=>J29_1 n a8 a0 a1 a2 a3 a4 a5 a6 a7 a9 a10 a11 p14) fun (again15:_→Option (List Tree))=>cnd (decide (a7<1)=true) (again15 ([.t (.bool true)],[])) (again15 ([AV.t
 (Tree.bool (decide (a7>w64 ((1099511627776:Int)-a1))))],[])))) none) none)) none) none:=by kernel_rfl
theorem e30 (n:Nat) (a0:ByteArray):AB C (n+1) 30 [.str a0]=
 cnd (decide (((ByteArray.size a0:Nat):Int)>65536)=true) (some [.str (ByteArray.mk #[]),tI 4]) (Option.bind (AB C n 32 [tI ((ByteArray.size a0:Nat):Int)]) fun y1=>cnd
 (length y1=2) (cnd (okS y1 0) (cnd (okI y1 1) (cnd ((ByteArray.size (gS y1 0))+(ByteArray.size a0)≤9223372036854775807) (some [.str ((gS y1 0)++a0),tI 0]) none)
 none) none) none):=by kernel_rfl
noncomputable def J32_1 (n:Nat) (again6:(List AV×Heap)→Option (List Tree)) (p5:List AV×Heap) (p7:List AV×Heap):Option (List Tree):=
 cnd (AF p7 0=AJ p7 1 0∧(1=1∨1=0)∧(AK p7 1 0)+(AI p7 1 0)≤length (oEs p7 0)∧(AI p7 1 0)+1≤1073741824) (again6 ([.t (tI (w64
 ((vI p5 0)-(7:Int))))],[.row false ((AJ p7 1 0)+1) 1 ((take (AI p7 1 0) (drop (AK p7 1 0) (oEs p7 0)))++[[.int IntKind.u8 (vI p7 0)]]),.box [.sref
 0 ((AJ p7 1 0)+1) 0 ((AI p7 1 0)+1)],.box []])) none
noncomputable def Pd (n:Nat) (y2:List Tree) (p5:List AV×Heap) (again6:(List AV×Heap)→Option (List Tree)):Option (List Tree):=
 cnd (decide (vI p5 0≥(0:Int))=true) (cnd (vI p5 0<0) none (join (fun (p7:List AV×Heap)=>J32_1 n again6 p5 p7) fun (again8:_→Option (List Tree))=>cnd ((!((vI p5 0)==0))
 = true) (again8 ([.t (.int IntKind.u8 (IntKind.wrap IntKind.u8 ((Dg IntKind.u8 (IntKind.wrap IntKind.u8 (Df IntKind.i64 (gI y2 0) (vI p5 0))) (127:Int))+128)))],[.row false
 (AF p5 0) 1 (oEs p5 0),.box [.sref 0 (AJ p5 1 0) (AK p5 1 0) (AI p5 1 0)],.box []])) (again8 ([.t (.int IntKind.u8 (Dg IntKind.u8 (IntKind.wrap IntKind.u8 (Df
 IntKind.i64 (gI y2 0) (vI p5 0))) (127:Int)))],[.row false (AF p5 0) 1 (oEs p5 0),.box [.sref 0 (AJ p5 1 0) (AK p5 1 0) (AI p5 1 0)],.box []])))) (cnd (AF p5 0 =
 AJ p5 1 0∧(1=1∨1=0)) (cnd (DU (take (AI p5 1 0) (drop (AK p5 1 0) (oEs p5 0)))=true) (some [.str (bytesOf (take (AI p5 1 0) (drop
 (AK p5 1 0) (oEs p5 0)))),tI 0]) none) none)
noncomputable def Pc (n:Nat) (y2:List Tree) (p3:List AV×Heap) (again4:(List AV×Heap)→Option (List Tree)):Option (List Tree):=
 cnd (vI p3 0<0) none (cnd (decide (Df IntKind.i64 (gI y2 0) (vI p3 0)≥(128:Int))=true) (again4 ([.t (tI (w64 ((vI p3 0)+7)))],[.row false (AF p3 0) 1 (oEs p3 0),
 .box [.sref 0 (AJ p3 1 0) (AK p3 1 0) (AI p3 1 0)],.box []])) (AH (fun (p5:List AV×Heap) (again6:_→Option (List Tree))=>Pd n y2 p5 again6) n ([.t (tI (vI p3
 0))],[.row false (AF p3 0) 1 (oEs p3 0),.box [.sref 0 (AJ p3 1 0) (AK p3 1 0) (AI p3 1 0)],.box []])))
theorem e32 (n:Nat) (a0:Int):AB C (n+1) 32 [tI a0]=
 Option.bind (AB C n 75 [tI a0]) fun y1=>cnd (length y1=1) (cnd (okB y1 0) (cnd ((!(gB y1 0))=true) (some [.str (ByteArray.mk #[]),tI 2]) (Option.bind (AB C n
 77 [tI a0]) fun y2=>cnd (length y2=1) (cnd (okI y2 0) (AH (fun (p3:List AV×Heap) (again4:_→Option (List Tree))=>Pc n y2 p3 again4) n ([.t (tI 0)],
 [.row false 0 1 [],.box [.sref 0 0 0 0],.box []])) none) none)) none) none:=by kernel_rfl
noncomputable def Pb (n:Nat) (a0:List (List Tree)) (p2:List AV×Heap) (again3:(List AV×Heap)→Option (List Tree)):Option (List Tree):=
 cnd (decide (vI p2 1<((length a0:Nat):Int))=true) (cnd (3=3∧(0:Int)≤vI p2 1) (Option.bind a0[toNat (vI p2 1)]? fun y4=>cnd (okI y4 0) (cnd (okI y4 1) (cnd (okS y4 2)
 (Option.bind (AB C n 78 [tI (gI y4 0),tI (gI y4 1),.str (gS y4 2)]) fun y5=>cnd (length y5=2) (cnd (okS y5 0) (cnd (okI y5 1) (cnd (((gI y5 1) != 0)=true) (some
 [.str (ByteArray.mk #[]),tI (gI y5 1)]) (cnd (decide (vI p2 1>0)=true) (cnd (3=3∧(0:Int)≤w64 ((vI p2 1)-(1:Int))) (Option.bind a0[toNat (w64 ((vI p2 1) -
 (1:Int)))]? fun y8=>cnd (okI y8 0) (cnd (decide (gI y4 0≤gI y8 0)=true) (some [.str (ByteArray.mk #[]),tI 9]) (cnd ((ByteArray.size (vS p2 0))+(ByteArray.size (gS y5 0))≤
 9223372036854775807) (again3 ([.t (.str ((vS p2 0)++(gS y5 0))),.t (tI (w64 ((vI p2 1)+1)))],[])) none)) none) none) (cnd ((ByteArray.size (vS p2 0))+(ByteArray.size (gS y5
 0))≤9223372036854775807) (again3 ([.t (.str ((vS p2 0)++(gS y5 0))),.t (tI (w64 ((vI p2 1)+1)))],[])) none))) none) none) none) none) none) none) none) (some [.str (vS
 p2 0),tI 0])
theorem e33 (n:Nat) (a0:List (List Tree)):AB C (n+1) 33 [.sl 3 a0]=
 cnd (decide (((length a0:Nat):Int)>8)=true) (some [.str (ByteArray.mk #[]),tI 4]) (Option.bind (AB C n 32 [tI ((length a0:Nat):Int)]) fun y1=>cnd (length
 y1=2) (cnd (okS y1 0) (cnd (okI y1 1) (AH (fun (p2:List AV×Heap) (again3:_→Option (List Tree))=>Pb n a0 p2 again3) n ([.t (.str (gS y1 0)),.t (tI 0)],[]))
 none) none) none):=by kernel_rfl
theorem e34 (n:Nat) (a0:ByteArray):AB C (n+1) 34 [.str a0]=
 Option.bind (AB C n 30 [.str a0]) fun y1=>cnd (length y1=2) (cnd (okS y1 0) (cnd (okI y1 1) (cnd (((gI y1 1) != 0)=true) (some [.str (ByteArray.mk #[]),tI (gI
 y1 1)]) (Option.bind (AB C n 79 [.str (gS y1 0)]) fun y2=>cnd (length y2=1) (cnd (okS y2 0) (cnd ((ByteArray.size (gS y1 0))+(ByteArray.size (gS y2 0))≤
 9223372036854775807) (some [.str ((gS y1 0)++(gS y2 0)),tI 0]) none) none) none)) none) none) none:=by kernel_rfl
theorem e35 (n:Nat) (a0:Int) (a1:Int) (a2:Int):AB C (n+1) 35 [tI a0,tI a1,tI a2]=
 cnd (decide (a0≥a1)=true) (some [.bool (decide (a0≤a2))]) (some [.bool false]):=by kernel_rfl
theorem e36 (n:Nat) (a0:List (List Tree)) (a1:Int):AB C (n+1) 36 [.sl 2 a0,tI a1]=
 Option.bind (AB C n 80 [.sl 2 a0]) fun y4=>cnd (length y4=1) (cnd (okI y4 0) (cnd (((gI y4 0)==0)=true) (cnd ((((length a0:Nat):Int)==0)=
 true) (some [.bool true]) (Option.bind a0[0]? fun y5=>cnd (okI y5 0) (cnd (decide (gI y5 0≥(0:Int))=true) (cnd (2=2∧(0:Int)≤w64 (((length a0:Nat):Int) -
 (1:Int))) (Option.bind a0[toNat (w64 (((length a0:Nat):Int)-(1:Int)))]? fun y6=>cnd (okI y6 1) (some [.bool (decide (gI y6 1≤a1))]) none) none) (some [.bool false])) none))
 (some [.bool false])) none) none:=by kernel_rfl
noncomputable def Lw (n:Nat) (a0:Int) (a1:Int) (a2:Int) (a3:Int) (a4:Int) (a5:Bool) (a6:ByteArray) (a7:List (List Tree)) (p16:List AV×Heap):Option (List Tree):=
 cnd (vB p16 0=true) (some [tI 2]) (Option.bind (AB C n 134 [tI a0,tI a1,tI a2,tI a3,tI a4,.bool a5,.str a6,.sl 2 a7]) fun y21=>cnd (length y21 =
 1) (cnd (okB y21 0) (cnd ((!(gB y21 0))=true) (some [tI 1]) (some [tI 0])) none) none)
noncomputable def Lv (n:Nat) (a0:Int) (a1:Int) (a2:Int) (a3:Int) (a4:Int) (a5:Bool) (a6:ByteArray) (a7:List (List Tree)) (p22:List AV×Heap):Option (List Tree):=
 cnd (vB p22 0=true) (some [tI 2]) (Option.bind (AB C n 132 [tI a0,tI a1,tI a2,tI a3,tI a4,.bool a5,.str a6,.sl 2 a7]) fun y27=>cnd (length y27 =
 1) (cnd (okB y27 0) (cnd ((!(gB y27 0))=true) (some [tI 1]) (some [tI 0])) none) none)
theorem e38 (n:Nat) (a0:Int) (a1:Int) (a2:Int) (a3:Int) (a4:Int) (a5:Bool) (a6:ByteArray) (a7:List (List Tree)):AB C (n+1) 38 [tI a0,tI a1,tI a2,tI a3,tI a4,.bool a5,.str a6,.sl 2 a7]=
 Option.bind (AB C n 35 [tI a0,tI 1,tI 3]) fun y8=>cnd (length y8=1) (cnd (okB y8 0) (cnd ((!(gB y8 0))=true) (some [tI 8]) (cnd ((0:Int)≤a0∧a0 <
 (4:Int)) (cnd (a0=((3:Nat):Int)) (Option.bind (AB C n 35 [tI a1,tI 0,tI 1099511627776]) fun y11=>cnd (length y11=1) (cnd (okB y11 0) (cnd ((!(gB y11 0))=true)
 (some [tI 2]) (Option.bind (AB C n 35 [tI a2,tI 0,tI 1099511627776]) fun y12=>cnd (length y12=1) (cnd (okB y12 0) (cnd ((!(gB y12 0))=true) (some [tI
 (2:Int)]) (Option.bind (AB C n 135 [tI a0,tI a1,tI a2,tI a3,tI a4,.bool a5,.str a6,.sl 2 a7]) fun y13=>cnd (length y13=1) (cnd (okB y13 0) (cnd ((!(gB
 y13 0))=true) (some [tI 2]) (Option.bind (AB C n 136 [tI a0,tI a1,tI a2,tI a3,tI a4,.bool a5,.str a6,.sl 2 a7]) fun y15=>cnd (length y15=1)
 (cnd (okB y15 0) (cnd ((!(gB y15 0))=true) (some [tI 1]) (some [tI 0])) none) none)) none) none)) none) none)) none) none) (cnd (a0=((2:Nat):Int)) (join (fun (p16:List AV×Heap)=>
 Lw n a0 a1 a2 a3 a4 a5 a6 a7 p16) fun (again17:_→Option (List Tree))=>Option.bind (AB C n 35 [tI a1,tI 0,tI 1099511627776]) fun y18=>cnd (length y18=1)
 (cnd (okB y18 0) (cnd ((!(gB y18 0))=true) (again17 ([.t (.bool true)],[.box [.t (.const Value.nilFunc),.t (.const Value.nilFunc),.func (Fn.func 131) [] [],.func
 (Fn.func 132) [] [],.func (Fn.func 133) [] [],.func (Fn.func 134) [] [],.func (Fn.func 135) [] [],.func (Fn.func 136) [] []],.box []])) (Option.bind (AB C n 35 [tI a2,tI
 (0:Int),tI 1099511627776]) fun y19=>cnd (length y19=1) (cnd (okB y19 0) (cnd ((!(gB y19 0))=true) (again17 ([.t (.bool true)],[.box [.t (.const Value.nilFunc),
 .t (.const Value.nilFunc),.func (Fn.func 131) [] [],.func (Fn.func 132) [] [],.func (Fn.func 133) [] [],.func (Fn.func 134) [] [],.func (Fn.func 135) [] [],.func (Fn.func 136)
 [] []],.box []])) (Option.bind (AB C n 133 [tI a0,tI a1,tI a2,tI a3,tI a4,.bool a5,.str a6,.sl 2 a7]) fun y20=>cnd (length y20=1) (cnd (okB y20 0)
 (again17 ([.t (.bool (!(gB y20 0)))],[.box [.t (.const Value.nilFunc),.t (.const Value.nilFunc),.func (Fn.func 131) [] [],.func (Fn.func 132) [] [],.func (Fn.func 133)
 [] [],.func (Fn.func 134) [] [],.func (Fn.func 135) [] [],.func (Fn.func 136) [] []],.box []])) none) none)) none) none)) none) none) (cnd (a0=((1:Nat):Int)) (join (fun (p22:List AV
 × Heap)=>Lv n a0 a1 a2 a3 a4 a5 a6 a7 p22) fun (again23:_→Option (List Tree))=>Option.bind (AB C n 35 [tI a1,tI 0,tI 1099511627776]) fun y24=>cnd (length y24 =
 1) (cnd (okB y24 0) (cnd ((!(gB y24 0))=true) (again23 ([.t (.bool true)],[.box [.t (.const Value.nilFunc),.t (.const Value.nilFunc),.func (Fn.func 131) [] [],
 .func (Fn.func 132) [] [],.func (Fn.func 133) [] [],.func (Fn.func 134) [] [],.func (Fn.func 135) [] [],.func (Fn.func 136) [] []],.box []])) (Option.bind (AB C n 35 [tI
 a2,tI 0,tI 1099511627776]) fun y25=>cnd (length y25=1) (cnd (okB y25 0) (cnd ((!(gB y25 0))=true) (again23 ([.t (.bool true)],[.box [.t (.const
 Value.nilFunc),.t (.const Value.nilFunc),.func (Fn.func 131) [] [],.func (Fn.func 132) [] [],.func (Fn.func 133) [] [],.func (Fn.func 134) [] [],.func (Fn.func 135) [] [],
 .func (Fn.func 136) [] []],.box []])) (Option.bind (AB C n 131 [tI a0,tI a1,tI a2,tI a3,tI a4,.bool a5,.str a6,.sl 2 a7]) fun y26=>cnd (length y26 =
 1) (cnd (okB y26 0) (again23 ([.t (.bool (!(gB y26 0)))],[.box [.t (.const Value.nilFunc),.t (.const Value.nilFunc),.func (Fn.func 131) [] [],.func (Fn.func 132) []
 [],.func (Fn.func 133) [] [],.func (Fn.func 134) [] [],.func (Fn.func 135) [] [],.func (Fn.func 136) [] []],.box []])) none) none)) none) none)) none) none) (cnd (a0=((0:Nat):Int))
 (Option.bind (AB C n 35 [tI a1,tI 0,tI 1099511627776]) fun y30=>cnd (length y30=1) (cnd (okB y30 0) (cnd ((!(gB y30 0))=true) (some [tI 2]) (Option.bind
 (AB C n 35 [tI a2,tI 0,tI 1099511627776]) fun y31=>cnd (length y31=1) (cnd (okB y31 0) (cnd ((!(gB y31 0))=true) (some [tI 2]) none) none) none)) none)
 none) none)))) none)) none) none:=by kernel_rfl
theorem e39 (n:Nat) (a0:Bool):AB C (n+1) 39 [.bool a0]=
 cnd (a0=true) (some [tI 1]) (some [tI 0]):=by kernel_rfl
noncomputable def U6 (n:Nat) (a0:List (List Tree)) (p2:List AV×Heap) (again3:(List AV×Heap)→Option (List Tree)):Option (List Tree):=
 cnd (decide (vI p2 1<((length a0:Nat):Int))=true) (cnd (1=1∧(0:Int)≤vI p2 1) (Option.bind a0[toNat (vI p2 1)]? fun y4=>cnd (okI y4 0) (Option.bind (AB C n 32
 [tI (gI y4 0)]) fun y5=>cnd (length y5=2) (cnd (okS y5 0) (cnd (okI y5 1) (cnd (((gI y5 1) != 0)=true) (some [.str (ByteArray.mk #[]),tI (gI y5 1)]) (cnd (length
 (AP (gS y5 0))=0∧(A1 p2 0)+(AR p2 0)<length (oEs p2 0)) (cnd (AF p2 0=Ar p2 0) (again3 ([.sref 0 (Ar p2 0) (A1 p2 0) (AR p2 0),.t (tI (w64 ((vI p2 1)
 + 1)))],[.row false (AF p2 0) 1 (oEs p2 0)])) none) (cnd (AF p2 0=Ar p2 0∧(1=1∨1=0)∧(A1 p2 0)+(AR p2 0)≤length (oEs p2 0)∧
 (AR p2 0)+(length (AP (gS y5 0)))≤1073741824) (again3 ([.sref 0 ((Ar p2 0)+1) 0 ((AR p2 0)+(length (AP (gS y5 0)))),.t (tI (w64 ((vI p2 1)
 + 1)))],[.row false ((Ar p2 0)+1) 1 ((take (AR p2 0) (drop (A1 p2 0) (oEs p2 0)))++(AP (gS y5 0)))])) none))) none) none) none) none) none) (cnd (AF p2
 0=Ar p2 0∧(1=1∨1=0)) (cnd (DU (take (AR p2 0) (drop (A1 p2 0) (oEs p2 0)))=true) (some [.str (bytesOf (take (AR p2 0) (drop
 (A1 p2 0) (oEs p2 0)))),tI 0]) none) none)
theorem e40 (n:Nat) (a0:List (List Tree)):AB C (n+1) 40 [.sl 1 a0]=
 cnd (decide (((length a0:Nat):Int)>65536)=true) (some [.str (ByteArray.mk #[]),tI 4]) (Option.bind (AB C n 32 [tI ((length a0:Nat):Int)]) fun y1=>cnd
 (length y1=2) (cnd (okS y1 0) (cnd (okI y1 1) (AH (fun (p2:List AV×Heap) (again3:_→Option (List Tree))=>U6 n a0 p2 again3) n ([.sref 0 0 0
 (ByteArray.size (gS y1 0)),.t (tI 0)],[.row false 0 1 (AP (gS y1 0))])) none) none) none):=by kernel_rfl
noncomputable def J41_1 (n:Nat) (a0:ByteArray) (y1:List Tree) (p2:List AV×Heap):Option (List Tree):=
 cnd (vB p2 0=true) (some [.str (ByteArray.mk #[]),tI 0,tI 2]) (cnd (decide (((ByteArray.size a0:Nat):Int)<w64 ((w64 ((gI y1 1)+(gI y1 0)))+4))=true) (some [.str
 (ByteArray.mk #[]),tI 0,tI 12]) (cnd ((0:Int)≤w64 ((gI y1 1)+(gI y1 0))∧w64 ((gI y1 1)+(gI y1 0))≤((ByteArray.size a0:Nat):Int)) (Option.bind (AB C n 79 [.str
 (ByteArray.extract a0 0 (toNat (w64 ((gI y1 1)+(gI y1 0)))))]) fun y4=>cnd (length y4=1) (cnd (okS y4 0) (cnd ((0:Int)≤w64 ((w64 ((gI y1 1)+(gI y1 0)))+4)∧w64
 ((w64 ((gI y1 1)+(gI y1 0)))+4)≤((ByteArray.size a0:Nat):Int)) (cnd ((0:Int)≤w64 ((gI y1 1)+(gI y1 0))∧w64 ((gI y1 1)+(gI y1 0))≤((toNat (w64 ((w64 ((gI y1 1)+(gI y1 0))) +
 (4:Int))):Nat):Int)) (cnd (((gS y4 0) != (ByteArray.extract a0 (toNat (w64 ((gI y1 1)+(gI y1 0)))) (toNat (w64 ((w64 ((gI y1 1)+(gI y1 0)))+4)))))=true) (some [.str
 (ByteArray.mk #[]),tI 0,tI 13]) (cnd ((0:Int)≤w64 ((gI y1 1)+(gI y1 0))∧w64 ((gI y1 1)+(gI y1 0))≤((ByteArray.size a0:Nat):Int)) (cnd ((0:Int)≤gI y1 1∧gI y1 1≤((toNat
 (w64 ((gI y1 1)+(gI y1 0))):Nat):Int)) (some [.str (ByteArray.extract a0 (toNat (gI y1 1)) (toNat (w64 ((gI y1 1)+(gI y1 0))))),tI (w64 ((w64 ((gI y1 1)+(gI y1 0)))+4)),tI
 (0:Int)]) none) none)) none) none) none) none) none))
theorem e41 (n:Nat) (a0:ByteArray):AB C (n+1) 41 [.str a0]=
 Option.bind (AB C n 83 [.str a0]) fun y1=>cnd (length y1=3) (cnd (okI y1 0) (cnd (okI y1 1) (cnd (okI y1 2) (cnd (((gI y1 2) != 0)=true) (some [.str
 (ByteArray.mk #[]),tI 0,tI (gI y1 2)]) (join (fun (p2:List AV×Heap)=>J41_1 n a0 y1 p2) fun (again3:_→Option (List Tree))=>cnd (decide (gI y1 0<0)=true) (again3 ([AV.t
 (Tree.bool true)],[])) (again3 ([.t (.bool (decide (gI y1 0>65536)))],[])))) none) none) none) none:=by kernel_rfl
noncomputable def U5 (n:Nat) (y8:List Tree) (p11:List AV×Heap) (again12:(List AV×Heap)→Option (List Tree)):Option (List Tree):=
 cnd (decide (vI p11 0<((length (gL y8 0):Nat):Int))=true) (cnd (1=1∧(0:Int)≤vI p11 0) (Option.bind (gL y8 0)[toNat (vI p11 0)]? fun y13=>cnd (okI y13 0) (cnd (1
 = 1∧(0:Int)≤w64 ((vI p11 0)+1)) (Option.bind (gL y8 0)[toNat (w64 ((vI p11 0)+1))]? fun y14=>cnd (okI y14 0) (cnd (AF p11 3=AJ p11 4 7∧(2=2∨
 2=0)∧(AK p11 4 7)+(AI p11 4 7)≤length (oEs p11 3)∧(AI p11 4 7)+1≤1073741824) (again12 ([.t (tI (w64 ((vI p11 0)+2)))],[.row false (AF
 p11 0) 2 (oEs p11 0),.box [.t (tI (cI p11 1 0)),.t (tI (cI p11 1 1)),.t (tI (cI p11 1 2)),.t (tI (cI p11 1 3)),.t (tI (cI p11 1 4)),.t (.bool (cB p11 1 5)),AV.t
 (Tree.str (cS p11 1 6)),.sref 0 (AJ p11 1 7) (AK p11 1 7) (AI p11 1 7)],.box [.t (tI (cI p11 2 0)),.t (tI (cI p11 2 1)),.t (tI (cI p11 2 2)),.t (tI (cI p11 2 3)),AV.t
 (tI (cI p11 2 4)),.t (tI (cI p11 2 5))],.row false ((AJ p11 4 7)+1) 2 ((take (AI p11 4 7) (drop (AK p11 4 7) (oEs p11 3)))++[[tI (gI y13 0),tI (gI y14 0)]]),
 .box [.t (tI (cI p11 4 0)),.t (tI (cI p11 4 1)),.t (tI (cI p11 4 2)),.t (tI (cI p11 4 3)),.t (tI (cI p11 4 4)),.t (.bool (cB p11 4 5)),.t (.str (cS p11 4 6)),.sref
 3 ((AJ p11 4 7)+1) 0 ((AI p11 4 7)+1)]])) none) none) none) none) none) (cnd ((false=true∨false=false)∧AF p11 3=AJ p11 4 7∧(2=2∨2
 = 0)) (Option.bind (AB C n 38 [tI (cI p11 4 0),tI (cI p11 4 1),tI (cI p11 4 2),tI (cI p11 4 3),tI (cI p11 4 4),.bool (cB p11 4 5),.str (cS p11 4 6),.sl 2
 (take (AI p11 4 7) (drop (AK p11 4 7) (oEs p11 3)))]) fun y15=>cnd (length y15=1) (cnd (okI y15 0) (cnd ((false=true∨false=false)∧AF p11 3=AJ p11 4 7∧
 (2=2∨2=0)) (some [tI (cI p11 4 0),tI (cI p11 4 1),tI (cI p11 4 2),tI (cI p11 4 3),tI (cI p11 4 4),.bool (cB p11 4 5),.str (cS p11 4 6),.sl 2
 (take (AI p11 4 7) (drop (AK p11 4 7) (oEs p11 3))),.bool ((gI y15 0)==0)]) none) none) none) none)
noncomputable def J42_2 (n:Nat) (y8:List Tree) (p9:List AV×Heap):Option (List Tree):=
 cnd (vB p9 0=true) none (AH (fun (p11:List AV×Heap) (again12:_→Option (List Tree))=>U5 n y8 p11 again12) n ([.t (tI 0)],[.row false (AF p9 0) 2 (oEs p9 0),
 .box [.t (tI (cI p9 1 0)),.t (tI (cI p9 1 1)),.t (tI (cI p9 1 2)),.t (tI (cI p9 1 3)),.t (tI (cI p9 1 4)),.t (.bool (cB p9 1 5)),.t (.str (cS p9 1 6)),.sref 0
 (AJ p9 1 7) (AK p9 1 7) (AI p9 1 7)],.box [.t (tI (cI p9 2 0)),.t (tI (cI p9 2 1)),.t (tI (cI p9 2 2)),.t (tI (cI p9 2 3)),.t (tI (cI p9 2 4)),.t (tI (cI p9 2 5))],
 .row false (AF p9 3) 2 (oEs p9 3),.box [.t (tI (cI p9 4 0)),.t (tI (cI p9 4 1)),.t (tI (cI p9 4 2)),.t (tI (cI p9 4 3)),.t (tI (cI p9 4 4)),.t (.bool (cB p9 4
 5)),.t (.str (cS p9 4 6)),.sref 3 (AJ p9 4 7) (AK p9 4 7) (AI p9 4 7)]]))
noncomputable def J42_3 (n:Nat) (y4:List Tree) (p1:List AV×Heap) (p5:List AV×Heap):Option (List Tree):=
 cnd (vB p5 0=true) none (cnd ((0:Int)≤gI y4 1∧gI y4 1≤((ByteArray.size (vS p1 0):Nat):Int)) (Option.bind (AB C n 85 [.str (ByteArray.extract (vS p1 0) (toNat (gI y4 1))
 (ByteArray.size (vS p1 0)))]) fun y8=>cnd (length y8=3) (cnd (okL 1 y8 0) (cnd (okI y8 1) (cnd (okI y8 2) (join (fun (p9:List AV×Heap)=>J42_2 n y8 p9) fun (again10:_→Option
 (List Tree))=>cnd (((gI y8 2) != 0)=true) (again10 ([.t (.bool true)],[.row false (AF p5 0) 2 (oEs p5 0),.box [.t (tI (cI p5 1 0)),.t (tI (cI p5 1 1)),.t (tI
 (cI p5 1 2)),.t (tI (cI p5 1 3)),.t (tI (cI p5 1 4)),.t (.bool (cB p5 1 5)),.t (.str (cS p5 1 6)),.sref 0 (AJ p5 1 7) (AK p5 1 7) (AI p5 1 7)],.box [.t (tI
 (cI p5 2 0)),.t (tI (cI p5 2 1)),.t (tI (cI p5 2 2)),.t (tI (cI p5 2 3)),.t (tI (cI p5 2 4)),.t (tI (cI p5 2 5))],.row false (AF p5 3) 2 (oEs p5 3),.box [.t (tI (cI
 p5 4 0)),.t (tI (cI p5 4 1)),.t (tI (cI p5 4 2)),.t (tI (cI p5 4 3)),.t (tI (cI p5 4 4)),.t (.bool (cB p5 4 5)),.t (.str (gS y4 0)),.sref 3 (AJ p5 4 7) (AK p5 4
 7) (AI p5 4 7)]])) (cnd (((w64 ((gI y4 1)+(gI y8 1))) != ((ByteArray.size (vS p1 0):Nat):Int))=true) (again10 ([.t (.bool true)],[.row false (AF p5 0) 2 (oEs p5 0),.box
 [.t (tI (cI p5 1 0)),.t (tI (cI p5 1 1)),.t (tI (cI p5 1 2)),.t (tI (cI p5 1 3)),.t (tI (cI p5 1 4)),.t (.bool (cB p5 1 5)),.t (.str (cS p5 1 6)),.sref 0 (AJ p5
 1 7) (AK p5 1 7) (AI p5 1 7)],.box [.t (tI (cI p5 2 0)),.t (tI (cI p5 2 1)),.t (tI (cI p5 2 2)),.t (tI (cI p5 2 3)),.t (tI (cI p5 2 4)),.t (tI (cI p5 2 5))],.row false
 (AF p5 3) 2 (oEs p5 3),.box [.t (tI (cI p5 4 0)),.t (tI (cI p5 4 1)),.t (tI (cI p5 4 2)),.t (tI (cI p5 4 3)),.t (tI (cI p5 4 4)),.t (.bool (cB p5 4 5)),AV.t
 (Tree.str (gS y4 0)),.sref 3 (AJ p5 4 7) (AK p5 4 7) (AI p5 4 7)]])) (again10 ([.t (.bool ((tmod ((length (gL y8 0):Nat):Int) (2:Int))==1))],[.row false
 (AF p5 0) 2 (oEs p5 0),.box [.t (tI (cI p5 1 0)),.t (tI (cI p5 1 1)),.t (tI (cI p5 1 2)),.t (tI (cI p5 1 3)),.t (tI (cI p5 1 4)),.t (.bool (cB p5 1 5)),AV.t
 (Tree.str (cS p5 1 6)),.sref 0 (AJ p5 1 7) (AK p5 1 7) (AI p5 1 7)],.box [.t (tI (cI p5 2 0)),.t (tI (cI p5 2 1)),.t (tI (cI p5 2 2)),.t (tI (cI p5 2 3)),.t (tI (cI
 p5 2 4)),.t (tI (cI p5 2 5))],.row false (AF p5 3) 2 (oEs p5 3),.box [.t (tI (cI p5 4 0)),.t (tI (cI p5 4 1)),.t (tI (cI p5 4 2)),.t (tI (cI p5 4 3)),.t (tI (cI p5 4
 4)),.t (.bool (cB p5 4 5)),.t (.str (gS y4 0)),.sref 3 (AJ p5 4 7) (AK p5 4 7) (AI p5 4 7)]])))) none) none) none) none) none)
noncomputable def Rp (n:Nat)  (p1:List AV×Heap) (again2:(List AV×Heap)→Option (List Tree)):Option (List Tree):=
 cnd (decide (vI p1 1<6)=true) (Option.bind (AB C n 83 [.str (vS p1 0)]) fun y3=>cnd (length y3=3) (cnd (okI y3 0) (cnd (okI y3 1) (cnd (okI y3 2) (cnd (((gI y3 2)
 != 0)=true) none (cnd ((0:Int)≤gI y3 1∧gI y3 1≤((ByteArray.size (vS p1 0):Nat):Int)) (cnd ((0:Int)≤vI p1 1∧vI p1 1<6) (cnd (vI p1 1=((5:Nat):Int)) (again2 ([.t (.str
 (ByteArray.extract (vS p1 0) (toNat (gI y3 1)) (ByteArray.size (vS p1 0)))),.t (tI (w64 ((vI p1 1)+1)))],[.row false (AF p1 0) 2 (oEs p1 0),.box [.t (tI (cI p1 1
 0)),.t (tI (cI p1 1 1)),.t (tI (cI p1 1 2)),.t (tI (cI p1 1 3)),.t (tI (cI p1 1 4)),.t (.bool (cB p1 1 5)),.t (.str (cS p1 1 6)),.sref 0 (AJ p1 1 7) (AK p1 1 7)
 (AI p1 1 7)],.box [.t (tI (cI p1 2 0)),.t (tI (cI p1 2 1)),.t (tI (cI p1 2 2)),.t (tI (cI p1 2 3)),.t (tI (cI p1 2 4)),.t (tI (gI y3 0))]])) (cnd (vI p1 1=((4:Nat):Int))
 (again2 ([.t (.str (ByteArray.extract (vS p1 0) (toNat (gI y3 1)) (ByteArray.size (vS p1 0)))),.t (tI (w64 ((vI p1 1)+1)))],[.row false (AF p1 0) 2 (oEs p1 0),
 .box [.t (tI (cI p1 1 0)),.t (tI (cI p1 1 1)),.t (tI (cI p1 1 2)),.t (tI (cI p1 1 3)),.t (tI (cI p1 1 4)),.t (.bool (cB p1 1 5)),.t (.str (cS p1 1 6)),.sref 0
 (AJ p1 1 7) (AK p1 1 7) (AI p1 1 7)],.box [.t (tI (cI p1 2 0)),.t (tI (cI p1 2 1)),.t (tI (cI p1 2 2)),.t (tI (cI p1 2 3)),.t (tI (gI y3 0)),.t (tI (cI p1 2 5))]])) (cnd
 (vI p1 1=((3:Nat):Int)) (again2 ([.t (.str (ByteArray.extract (vS p1 0) (toNat (gI y3 1)) (ByteArray.size (vS p1 0)))),.t (tI (w64 ((vI p1 1)+1)))],[.row false (AF p1 0)
 2 (oEs p1 0),.box [.t (tI (cI p1 1 0)),.t (tI (cI p1 1 1)),.t (tI (cI p1 1 2)),.t (tI (cI p1 1 3)),.t (tI (cI p1 1 4)),.t (.bool (cB p1 1 5)),.t (.str (cS p1 1
 6)),.sref 0 (AJ p1 1 7) (AK p1 1 7) (AI p1 1 7)],.box [.t (tI (cI p1 2 0)),.t (tI (cI p1 2 1)),.t (tI (cI p1 2 2)),.t (tI (gI y3 0)),.t (tI (cI p1 2 4)),.t (tI (cI
 p1 2 5))]])) (cnd (vI p1 1=((2:Nat):Int)) (again2 ([.t (.str (ByteArray.extract (vS p1 0) (toNat (gI y3 1)) (ByteArray.size (vS p1 0)))),.t (tI (w64 ((vI p1 1)+1)))],[.row
 false (AF p1 0) 2 (oEs p1 0),.box [.t (tI (cI p1 1 0)),.t (tI (cI p1 1 1)),.t (tI (cI p1 1 2)),.t (tI (cI p1 1 3)),.t (tI (cI p1 1 4)),.t (.bool (cB p1 1 5)),AV.t
 (Tree.str (cS p1 1 6)),.sref 0 (AJ p1 1 7) (AK p1 1 7) (AI p1 1 7)],.box [.t (tI (cI p1 2 0)),.t (tI (cI p1 2 1)),.t (tI (gI y3 0)),.t (tI (cI p1 2 3)),.t (tI (cI p1
 2 4)),.t (tI (cI p1 2 5))]])) (cnd (vI p1 1=((1:Nat):Int)) (again2 ([.t (.str (ByteArray.extract (vS p1 0) (toNat (gI y3 1)) (ByteArray.size (vS p1 0)))),.t (tI (w64 ((vI p1 1) +
 (1:Int))))],[.row false (AF p1 0) 2 (oEs p1 0),.box [.t (tI (cI p1 1 0)),.t (tI (cI p1 1 1)),.t (tI (cI p1 1 2)),.t (tI (cI p1 1 3)),.t (tI (cI p1 1 4)),AV.t
 (Tree.bool (cB p1 1 5)),.t (.str (cS p1 1 6)),.sref 0 (AJ p1 1 7) (AK p1 1 7) (AI p1 1 7)],.box [.t (tI (cI p1 2 0)),.t (tI (gI y3 0)),.t (tI (cI p1 2 2)),.t (tI
 (cI p1 2 3)),.t (tI (cI p1 2 4)),.t (tI (cI p1 2 5))]])) (cnd (vI p1 1=((0:Nat):Int)) (again2 ([.t (.str (ByteArray.extract (vS p1 0) (toNat (gI y3 1)) (ByteArray.size (vS p1 0)))),
 .t (tI (w64 ((vI p1 1)+1)))],[.row false (AF p1 0) 2 (oEs p1 0),.box [.t (tI (cI p1 1 0)),.t (tI (cI p1 1 1)),.t (tI (cI p1 1 2)),.t (tI (cI p1 1 3)),.t (tI
 (cI p1 1 4)),.t (.bool (cB p1 1 5)),.t (.str (cS p1 1 6)),.sref 0 (AJ p1 1 7) (AK p1 1 7) (AI p1 1 7)],.box [.t (tI (gI y3 0)),.t (tI (cI p1 2 1)),.t (tI (cI
 p1 2 2)),.t (tI (cI p1 2 3)),.t (tI (cI p1 2 4)),.t (tI (cI p1 2 5))]])) none)))))) none) none)) none) none) none) none) (Option.bind (AB C n 84 [.str (vS p1 0)]) fun y4=>cnd
 (length y4=3) (cnd (okS y4 0) (cnd (okI y4 1) (cnd (okI y4 2) (join (fun (p5:List AV×Heap)=>J42_3 n y4 p1 p5) fun (again6:_→Option (List Tree))=>cnd (((gI y4 2) != 0)=
 true) (again6 ([.t (.bool true)],[.row false (AF p1 0) 2 (oEs p1 0),.box [.t (tI (cI p1 1 0)),.t (tI (cI p1 1 1)),.t (tI (cI p1 1 2)),.t (tI (cI p1 1 3)),.t (tI
 (cI p1 1 4)),.t (.bool (cB p1 1 5)),.t (.str (cS p1 1 6)),.sref 0 (AJ p1 1 7) (AK p1 1 7) (AI p1 1 7)],.box [.t (tI (cI p1 2 0)),.t (tI (cI p1 2 1)),.t (tI
 (cI p1 2 2)),.t (tI (cI p1 2 3)),.t (tI (cI p1 2 4)),.t (tI (cI p1 2 5))],.row false 0 2 [],.box [.t (tI (cI p1 2 0)),.t (tI (cI p1 2 1)),.t (tI (cI p1 2 2)),
 .t (tI (cI p1 2 3)),.t (tI (cI p1 2 4)),.t (.bool ((cI p1 2 5)==1)),.t (.str (ByteArray.mk #[])),.sref 3 0 0 0]])) (Option.bind (AB C n
 35 [tI (cI p1 2 5),tI 0,tI 1]) fun y7=>cnd (length y7=1) (cnd (okB y7 0) (again6 ([.t (.bool (!(gB y7 0)))],[.row false (AF p1 0) 2 (oEs p1 0),
 .box [.t (tI (cI p1 1 0)),.t (tI (cI p1 1 1)),.t (tI (cI p1 1 2)),.t (tI (cI p1 1 3)),.t (tI (cI p1 1 4)),.t (.bool (cB p1 1 5)),.t (.str (cS p1 1 6)),.sref 0
 (AJ p1 1 7) (AK p1 1 7) (AI p1 1 7)],.box [.t (tI (cI p1 2 0)),.t (tI (cI p1 2 1)),.t (tI (cI p1 2 2)),.t (tI (cI p1 2 3)),.t (tI (cI p1 2 4)),.t (tI (cI p1 2 5))],
 .row false 0 2 [],.box [.t (tI (cI p1 2 0)),.t (tI (cI p1 2 1)),.t (tI (cI p1 2 2)),.t (tI (cI p1 2 3)),.t (tI (cI p1 2 4)),.t (.bool ((cI p1 2 5)==
 (1:Int))),.t (.str (ByteArray.mk #[])),.sref 3 0 0 0]])) none) none)) none) none) none) none)
theorem e42 (n:Nat) (a0:ByteArray):AB C (n+1) 42 [.str a0]=
 AH (fun (p1:List AV×Heap) (again2:_→Option (List Tree))=>Rp n p1 again2) n ([.t (.str a0),.t (tI 0)],[.row false 0 2 [],.box [.t (tI 0),
 .t (tI 0),.t (tI 0),.t (tI 0),.t (tI 0),.t (.bool false),.t (.str (ByteArray.mk #[])),.sref 0 0 0 0],.box [.t (tI
 (0:Int)),.t (tI 0),.t (tI 0),.t (tI 0),.t (tI 0),.t (tI 0)]]):=by kernel_rfl
noncomputable def U4 (n:Nat) (a0:List (List Tree)) (a1:List (List Tree)) (p2:List AV×Heap) (again3:(List AV×Heap)→Option (List Tree)):Option (List Tree):=
 cnd (decide (vI p2 0<((length a0:Nat):Int))=true) (cnd (2=2∧(0:Int)≤vI p2 0) (Option.bind a0[toNat (vI p2 0)]? fun y4=>cnd (okI y4 0) (cnd (okI y4 1) (cnd (2 =
 2∧(0:Int)≤vI p2 0) (Option.bind a1[toNat (vI p2 0)]? fun y5=>cnd (okI y5 0) (cnd (okI y5 1) (cnd ((!(((gI y4 0)==(gI y5 0))&&((gI y4 1)==(gI y5 1))))=true) (some [.bool
 false]) (again3 ([.t (tI (w64 ((vI p2 0)+1)))],[]))) none) none) none) none) none) none) (some [.bool true])
theorem e43 (n:Nat) (a0:List (List Tree)) (a1:List (List Tree)):AB C (n+1) 43 [.sl 2 a0,.sl 2 a1]=
 cnd ((((length a0:Nat):Int) != ((length a1:Nat):Int))=true) (some [.bool false]) (AH (fun (p2:List AV×Heap) (again3:_→Option (List Tree))=>U4 n a0 a1 p2 again3) n
 ([.t (tI 0)],[])):=by kernel_rfl
theorem e44 (n:Nat) (a0:Int):AB C (n+1) 44 [tI a0]=
 cnd (decide (a0<0)=true) (some [tI 0,tI 0,.sl 2 [],.str (ByteArray.mk #[]),tI 2]) (cnd (decide (a0>1099511627776)=true) (some [tI 0,tI
 (0:Int),.sl 2 [],.str (ByteArray.mk #[]),tI 2]) (some [tI a0,tI (-1),.sl 2 [],.str (ByteArray.mk #[]),tI 0])):=by kernel_rfl
noncomputable def Rs (n:Nat) (a4:Int) (a5:Int) (a6:Int) (a7:Int) (a8:Int) (a9:Bool) (a10:ByteArray) (a11:List (List Tree)) (p12:List AV×Heap):Option (List Tree):=
 cnd (vB p12 0=true) (some [tI 0,tI 0,.sl 2 [],.str (ByteArray.mk #[]),.sl 8 [],tI 1]) (Option.bind (AB C n 86 [tI (cI p12 0 0),tI (cI p12 0
 1),.sl 2 (cL p12 0 2),.str (cS p12 0 3),tI a4,tI a5,tI a6,tI a7,tI a8,.bool a9,.str a10,.sl 2 a11]) fun y16=>cnd (length y16=1) (cnd (okB y16
 0) (cnd ((!(gB y16 0))=true) (some [tI (cI p12 0 0),tI (cI p12 0 1),.sl 2 (cL p12 0 2),.str (cS p12 0 3),.sl 8 [],tI 0]) (Option.bind (AB C n 87 [tI (cI
 p12 0 0),tI (cI p12 0 1),.sl 2 (cL p12 0 2),.str (cS p12 0 3),tI a4,tI a5,tI a6,tI a7,tI a8,.bool a9,.str a10,.sl 2 a11]) fun y17=>cnd (length y17 =
 2) (cnd (okL 2 y17 0) (cnd (okI y17 1) (cnd (a8=a8∧(0:Int)≤a8∧a8≤1073741824∧1=1) (cnd ((0:Int)≤a7∧a7≤((toNat a8:Nat):Int)) (cnd (DU (take
 (toNat a8) (A6 (A6 (replicate (toNat a8) [.int IntKind.u8 (0:Int)]) 0 (take (toNat a8) (AP (cS p12 0 3)))) (0+(toNat a7)) (take ((toNat
 a8)-(toNat a7)) (AP a10))))=true) (cnd ((!a9)=true) (some [tI (cI p12 0 0),tI a8,.sl 2 (gL y17 0),.str (bytesOf (take (toNat a8) (A6 (A6 (replicate
 (toNat a8) [.int IntKind.u8 (0:Int)]) 0 (take (toNat a8) (AP (cS p12 0 3)))) (0+(toNat a7)) (take ((toNat a8)-(toNat a7)) (AP a10))))),
 Tree.sl 8 [],tI 0]) (Option.bind (AB C n 89 [.sl 2 (gL y17 0)]) fun y18=>cnd (length y18=1) (cnd (okL 2 y18 0) (Option.bind (AB C n 88 [tI (cI
 p12 0 0),tI a6,tI a8,.sl 2 (gL y18 0)]) fun y19=>cnd (length y19=9) (cnd (okI y19 0) (cnd (okI y19 1) (cnd (okI y19 2) (cnd (okI y19 3) (cnd (okI y19 4) (cnd (okB y19 5)
 (cnd (okS y19 6) (cnd (okL 2 y19 7) (cnd (okI y19 8) (cnd (((gI y19 8) != 0)=true) (some [tI (cI p12 0 0),tI a8,.sl 2 (gL y17 0),.str (bytesOf (take (toNat a8)
 (A6 (A6 (replicate (toNat a8) [.int IntKind.u8 (0:Int)]) 0 (take (toNat a8) (AP (cS p12 0 3)))) (0+(toNat a7)) (take ((toNat a8) -
 (toNat a7)) (AP a10))))),.sl 8 [],tI 0]) (some [tI (cI p12 0 0),tI a8,.sl 2 (gL y17 0),.str (bytesOf (take (toNat a8) (A6 (A6
 (replicate (toNat a8) [.int IntKind.u8 (0:Int)]) 0 (take (toNat a8) (AP (cS p12 0 3)))) (0+(toNat a7)) (take ((toNat a8)-(toNat a7)) (AP
 a10))))),.sl 8 [[tI (gI y19 0),tI (gI y19 1),tI (gI y19 2),tI (gI y19 3),tI (gI y19 4),.bool (gB y19 5),.str (gS y19 6),.sl 2 (gL y19 7)]],tI 0])) none)
 none) none) none) none) none) none) none) none) none) none) none)) none) none) none) none) none) none)) none) none)
theorem e45 (n:Nat) (a0:Int) (a1:Int) (a2:List (List Tree)) (a3:ByteArray) (a4:Int) (a5:Int) (a6:Int) (a7:Int) (a8:Int) (a9:Bool) (a10:ByteArray) (a11:List (List Tree)):AB C (n+1) 45 [tI a0,tI a1,.sl 2 a2,.str a3,tI a4,tI a5,tI a6,tI a7,tI a8,.bool a9,.str a10,.sl 2 a11]=
 join (fun (p12:List AV×Heap)=>Rs n a4 a5 a6 a7 a8 a9 a10 a11 p12) fun (again13:_→Option (List Tree))=>Option.bind (AB C n 46 [tI a0,tI a1,.sl 2 a2,.str a3])
 fun y14=>cnd (length y14=1) (cnd (okI y14 0) (cnd (((gI y14 0) != 0)=true) (again13 ([.t (.bool true)],[.box [.t (tI a0),.t (tI a1),.t (.sl 2 a2),
 .t (.str a3)],.box [.t (tI 0),.t (tI 0),.t (.sl 2 []),.t (.str (ByteArray.mk #[]))]])) (Option.bind (AB C n 38 [tI a4,tI a5,tI a6,tI a7,tI
 a8,.bool a9,.str a10,.sl 2 a11]) fun y15=>cnd (length y15=1) (cnd (okI y15 0) (again13 ([.t (.bool ((gI y15 0) != 0))],[.box [.t (tI a0),AV.t
 (tI a1),.t (.sl 2 a2),.t (.str a3)],.box [.t (tI 0),.t (tI 0),.t (.sl 2 []),.t (.str (ByteArray.mk #[]))]])) none) none)) none) none:=by kernel_rfl
noncomputable def U3 (n:Nat) (a2:List (List Tree)) (a3:ByteArray) (p13:List AV×Heap) (again14:(List AV×Heap)→Option (List Tree)):Option (List Tree):=
 cnd (decide (vI p13 0<((length a2:Nat):Int))=true) (cnd (2=2∧(0:Int)≤vI p13 0) (Option.bind a2[toNat (vI p13 0)]? fun y15=>cnd (okI y15 0) (cnd (okI y15 1) (cnd
 ((0:Int)≤gI y15 0∧gI y15 0≤((ByteArray.size a3:Nat):Int)) (cnd ((0:Int)≤cI p13 0 0∧cI p13 0 0≤((toNat (gI y15 0):Nat):Int)) (Option.bind (AB C n 91 [.str
 (ByteArray.extract a3 (toNat (cI p13 0 0)) (toNat (gI y15 0))),.str (ByteArray.mk #[0])]) fun y18=>cnd (length y18=1) (cnd (okS y18 0) (cnd ((!((gS y18 0)==(ByteArray.mk
 #[])))=true) (some [tI 24]) (again14 ([.t (tI (w64 ((vI p13 0)+1)))],[.box [.t (tI (gI y15 1))]]))) none) none) none) none) none) none) none) (cnd ((0:Int)≤((ByteArray.size
 a3:Nat):Int)∧((ByteArray.size a3:Nat):Int)≤((ByteArray.size a3:Nat):Int)) (cnd ((0:Int)≤cI p13 0 0∧cI p13 0 0≤((ByteArray.size a3:Nat):Int)) (Option.bind (AB C n 91 [.str
 (ByteArray.extract a3 (toNat (cI p13 0 0)) (ByteArray.size a3)),.str (ByteArray.mk #[0])]) fun y21=>cnd (length y21=1) (cnd (okS y21 0) (cnd ((!((gS y21 0)==(ByteArray.mk
 #[])))=true) (some [tI 24]) (some [tI 0])) none) none) none) none)
noncomputable def J46_2 (n:Nat) (a3:ByteArray) (a1:Int) (a2:List (List Tree)) (p9:List AV×Heap):Option (List Tree):=
 cnd (vB p9 0=true) (some [tI 1]) (cnd ((((ByteArray.size a3:Nat):Int) != (if (0:Int)>a1 then (0:Int) else a1))=true) (some [tI 10]) (AH (fun (p13:List AV×Heap) (again14:_
 →Option (List Tree))=>U3 n a2 a3 p13 again14) n ([.t (tI 0)],[.box [.t (tI 0)]])))
noncomputable def VQ (n:Nat) (a3:ByteArray) (a1:Int) (a2:List (List Tree)) (p6:List AV×Heap):Option (List Tree):=
 cnd (vB p6 0=true) (some [tI 1]) (join (fun (p9:List AV×Heap)=>J46_2 n a3 a1 a2 p9) fun (again10:_→Option (List Tree))=>cnd (decide (((length a2:Nat):Int)>0)=true)
 (Option.bind a2[0]? fun y11=>cnd (okI y11 0) (cnd (decide (gI y11 0<0)=true) (again10 ([.t (.bool true)],[])) (cnd (2=2∧(0:Int)≤w64 (((length
 a2:Nat):Int)-(1:Int))) (Option.bind a2[toNat (w64 (((length a2:Nat):Int)-(1:Int)))]? fun y12=>cnd (okI y12 1) (again10 ([.t (.bool (decide (gI y12 1>a1)))],[])) none) none))
 none) (again10 ([.t (.bool false)],[])))
noncomputable def VP (n:Nat) (a3:ByteArray) (a1:Int) (a2:List (List Tree)) (p4:List AV×Heap):Option (List Tree):=
 cnd (vB p4 0=true) (some [tI 2]) (join (fun (p6:List AV×Heap)=>VQ n a3 a1 a2 p6) fun (again7:_→Option (List Tree))=>Option.bind (AB C n 80 [.sl 2 a2]) fun y8
 =>cnd (length y8=1) (cnd (okI y8 0) (cnd (((gI y8 0) != 0)=true) (again7 ([.t (.bool true)],[])) (again7 ([.t (.bool (!((((length a2:Nat):Int)==0)==
 (a1==(-1)))))],[]))) none) none)
theorem e46 (n:Nat) (a0:Int) (a1:Int) (a2:List (List Tree)) (a3:ByteArray):AB C (n+1) 46 [tI a0,tI a1,.sl 2 a2,.str a3]=
 join (fun (p4:List AV×Heap)=>VP n a3 a1 a2 p4) fun (again5:_→Option (List Tree))=>cnd (decide (a0<0)=true) (again5 ([.t (.bool true)],[])) (cnd (decide (a0 >
 (1099511627776:Int))=true) (again5 ([.t (.bool true)],[])) (cnd ((a1 != (-1))=true) (cnd (decide (a1<1)=true) (again5 ([.t (.bool true)],[])) (again5 ([.t (.bool
 (decide (a1>65536)))],[]))) (again5 ([.t (.bool false)],[])))):=by kernel_rfl
theorem e47 (n:Nat) (a0:Int) (a1:Int) (a2:List (List Tree)) (a3:ByteArray):AB C (n+1) 47 [tI a0,tI a1,.sl 2 a2,.str a3]=
 Option.bind (AB C n 46 [tI a0,tI a1,.sl 2 a2,.str a3]) fun y6=>cnd (length y6=1) (cnd (okI y6 0) (cnd (((gI y6 0)==0)=true) (cnd ((((length
 a2:Nat):Int)==1)=true) (Option.bind a2[0]? fun y7=>cnd (okI y7 0) (cnd (okI y7 1) (some [.bool (((gI y7 0)==0)&&((gI y7 1)==a1))]) none) none) (some [.bool
 false])) (some [.bool false])) none) none:=by kernel_rfl
noncomputable def Ro (n:Nat) (a0:List (List Tree)) (a1:List (List Tree)) (p2:List AV×Heap) (again3:(List AV×Heap)→Option (List Tree)):Option (List Tree):=
 cnd (decide (vI p2 0<((length a0:Nat):Int))=true) (cnd (3=3∧(0:Int)≤vI p2 0) (Option.bind a0[toNat (vI p2 0)]? fun y4=>cnd (okI y4 0) (cnd (okI y4 1) (cnd (okS y4 2)
 (cnd (3=3∧(0:Int)≤vI p2 0) (Option.bind a1[toNat (vI p2 0)]? fun y5=>cnd (okI y5 0) (cnd (okI y5 1) (cnd (okS y5 2) (cnd ((!((((gI y4 0)==(gI y5 0))&&((gI y4 1)==(gI y5
 1)))&&((gS y4 2)==(gS y5 2))))=true) (some [.bool false]) (again3 ([.t (tI (w64 ((vI p2 0)+1)))],[]))) none) none) none) none) none) none) none) none) (some [.bool true])
theorem e52 (n:Nat) (a0:List (List Tree)) (a1:List (List Tree)):AB C (n+1) 52 [.sl 3 a0,.sl 3 a1]=
 cnd ((((length a0:Nat):Int) != ((length a1:Nat):Int))=true) (some [.bool false]) (AH (fun (p2:List AV×Heap) (again3:_→Option (List Tree))=>Ro n a0 a1 p2 again3) n
 ([.t (tI 0)],[])):=by kernel_rfl
noncomputable def VO (n:Nat) (y8:List Tree) (again7:(List AV×Heap)→Option (List Tree)) (p6:List AV×Heap) (p9:List AV×Heap):Option (List Tree):=
 cnd (vB p9 0=true) none (cnd ((0:Int)≤gI y8 1∧gI y8 1≤((ByteArray.size (cS p9 1 0):Nat):Int)) (again7 ([.t (tI (w64 ((vI p6 0)+1)))],[.box [.t (tI (cI p9 0 0)),.t (tI (cI
 p9 0 1)),.t (tI (cI p9 0 2)),.t (tI (cI p9 0 3)),.t (tI (cI p9 0 4)),.t (tI (cI p9 0 5)),.t (tI (cI p9 0 6)),.t (tI (cI p9 0 7)),.t (tI (cI p9 0 8)),.t (tI (cI p9 0 9)),AV.t
 (Tree.bool (cB p9 0 10)),.t (.str (cS p9 0 11)),.t (tI (cI p9 0 12)),.t (tI (cI p9 0 13)),.t (tI (cI p9 0 14)),.t (tI (cI p9 0 15)),.t (tI (cI p9 0 16)),.t (tI (cI p9 0 17)),
 .t (tI (cI p9 0 18))],.box [.t (.str (ByteArray.extract (cS p9 1 0) (toNat (gI y8 1)) (ByteArray.size (cS p9 1 0)))),.t (.bool (cB p9 1 1))],.box [.t (tI (cI p9 2 0)),
 .t (tI (cI p9 2 1)),.t (tI (cI p9 2 2)),.t (tI (cI p9 2 3)),.t (tI (cI p9 2 4)),.t (tI (cI p9 2 5)),.t (tI (cI p9 2 6)),.t (tI (cI p9 2 7)),.t (tI (cI p9 2 8)),.t (tI (cI p9
 2 9)),.t (.bool (cB p9 2 10)),.t (.str (cS p9 2 11)),.t (tI (cI p9 2 12)),.t (tI (cI p9 2 13)),.t (tI (cI p9 2 14)),.t (tI (cI p9 2 15)),.t (tI (cI p9 2 16)),.t (tI (cI
 p9 2 17)),.t (tI (cI p9 2 18))],.box [.t (tI (cI p9 3 0)),.t (tI (cI p9 3 1)),.t (tI (cI p9 3 2)),.t (tI (cI p9 3 3)),.t (tI (cI p9 3 4)),.t (tI (cI p9 3 5)),.t (tI (cI p9
 3 6)),.t (tI (cI p9 3 7)),.t (tI (cI p9 3 8)),.t (tI (cI p9 3 9)),.t (.bool (cB p9 3 10)),.t (.str (cS p9 3 11)),.t (tI (cI p9 3 12)),.t (tI (cI p9 3 13)),.t (tI (cI p9
 3 14)),.t (tI (cI p9 3 15)),.t (tI (cI p9 3 16)),.t (tI (cI p9 3 17)),.t (tI (gI y8 0))],.box [AV.ptr 3 0,AV.ptr 3 18]])) none)
noncomputable def VK (n:Nat) (y11:List Tree) (again7:(List AV×Heap)→Option (List Tree)) (p6:List AV×Heap) (p12:List AV×Heap):Option (List Tree):=
 cnd (vB p12 0=true) none (cnd ((0:Int)≤gI y11 1∧gI y11 1≤((ByteArray.size (cS p12 1 0):Nat):Int)) (again7 ([.t (tI (w64 ((vI p6 0)+1)))],[.box [.t (tI (cI p12 0 0)),.t (tI
 (cI p12 0 1)),.t (tI (cI p12 0 2)),.t (tI (cI p12 0 3)),.t (tI (cI p12 0 4)),.t (tI (cI p12 0 5)),.t (tI (cI p12 0 6)),.t (tI (cI p12 0 7)),.t (tI (cI p12 0 8)),.t (tI (cI p12
 0 9)),.t (.bool (cB p12 0 10)),.t (.str (cS p12 0 11)),.t (tI (cI p12 0 12)),.t (tI (cI p12 0 13)),.t (tI (cI p12 0 14)),.t (tI (cI p12 0 15)),.t (tI (cI p12 0 16)),AV.t
 (tI (cI p12 0 17)),.t (tI (cI p12 0 18))],.box [.t (.str (ByteArray.extract (cS p12 1 0) (toNat (gI y11 1)) (ByteArray.size (cS p12 1 0)))),.t (.bool (cB p12 1 1))],.box
 [.t (tI (cI p12 2 0)),.t (tI (cI p12 2 1)),.t (tI (cI p12 2 2)),.t (tI (cI p12 2 3)),.t (tI (cI p12 2 4)),.t (tI (cI p12 2 5)),.t (tI (cI p12 2 6)),.t (tI (cI p12 2 7)),AV.t
 (tI (cI p12 2 8)),.t (tI (cI p12 2 9)),.t (.bool (cB p12 2 10)),.t (.str (cS p12 2 11)),.t (tI (cI p12 2 12)),.t (tI (cI p12 2 13)),.t (tI (cI p12 2 14)),.t (tI (cI p12 2
 15)),.t (tI (cI p12 2 16)),.t (tI (cI p12 2 17)),.t (tI (cI p12 2 18))],.box [.t (tI (gI y11 0)),.t (tI (cI p12 3 1)),.t (tI (cI p12 3 2)),.t (tI (cI p12 3 3)),.t (tI (cI
 p12 3 4)),.t (tI (cI p12 3 5)),.t (tI (cI p12 3 6)),.t (tI (cI p12 3 7)),.t (tI (cI p12 3 8)),.t (tI (cI p12 3 9)),.t (.bool (cB p12 3 10)),.t (.str (cS p12 3 11)),AV.t
 (tI (cI p12 3 12)),.t (tI (cI p12 3 13)),.t (tI (cI p12 3 14)),.t (tI (cI p12 3 15)),.t (tI (cI p12 3 16)),.t (tI (cI p12 3 17)),.t (tI (cI p12 3 18))],.box [AV.ptr 3
 0,AV.ptr 3 18]])) none)
noncomputable def Rn (n:Nat) (again5:(List AV×Heap)→Option (List Tree)) (p6:List AV×Heap) (again7:(List AV×Heap)→Option (List Tree)):Option (List Tree):=
 cnd (decide (vI p6 0<2)=true) (cnd (1=1∧(0:Int)≤vI p6 0∧vI p6 0<2) (cnd (vI p6 0=((1:Nat):Int)) (Option.bind (AB C n 83 [.str (cS p6 1 0)]) fun y8
 =>cnd (length y8=3) (cnd (okI y8 0) (cnd (okI y8 1) (cnd (okI y8 2) (join (fun (p9:List AV×Heap)=>VO n y8 again7 p6 p9) fun (again10:_→Option (List Tree))=>cnd (cB p6 1 1
 = true) (again10 ([.t (.bool true)],[.box [.t (tI (cI p6 0 0)),.t (tI (cI p6 0 1)),.t (tI (cI p6 0 2)),.t (tI (cI p6 0 3)),.t (tI (cI p6 0 4)),.t (tI (cI p6 0 5)),.t (tI
 (cI p6 0 6)),.t (tI (cI p6 0 7)),.t (tI (cI p6 0 8)),.t (tI (cI p6 0 9)),.t (.bool (cB p6 0 10)),.t (.str (cS p6 0 11)),.t (tI (cI p6 0 12)),.t (tI (cI p6 0 13)),.t (tI
 (cI p6 0 14)),.t (tI (cI p6 0 15)),.t (tI (cI p6 0 16)),.t (tI (cI p6 0 17)),.t (tI (cI p6 0 18))],.box [.t (.str (cS p6 1 0)),.t (.bool (cB p6 1 1))],.box [.t (tI
 (cI p6 2 0)),.t (tI (cI p6 2 1)),.t (tI (cI p6 2 2)),.t (tI (cI p6 2 3)),.t (tI (cI p6 2 4)),.t (tI (cI p6 2 5)),.t (tI (cI p6 2 6)),.t (tI (cI p6 2 7)),.t (tI (cI p6 2 8)),
 .t (tI (cI p6 2 9)),.t (.bool (cB p6 2 10)),.t (.str (cS p6 2 11)),.t (tI (cI p6 2 12)),.t (tI (cI p6 2 13)),.t (tI (cI p6 2 14)),.t (tI (cI p6 2 15)),.t (tI (cI p6 2
 16)),.t (tI (cI p6 2 17)),.t (tI (cI p6 2 18))],.box [.t (tI (cI p6 3 0)),.t (tI (cI p6 3 1)),.t (tI (cI p6 3 2)),.t (tI (cI p6 3 3)),.t (tI (cI p6 3 4)),.t (tI (cI p6 3
 5)),.t (tI (cI p6 3 6)),.t (tI (cI p6 3 7)),.t (tI (cI p6 3 8)),.t (tI (cI p6 3 9)),.t (.bool (cB p6 3 10)),.t (.str (cS p6 3 11)),.t (tI (cI p6 3 12)),.t (tI (cI p6 3
 13)),.t (tI (cI p6 3 14)),.t (tI (cI p6 3 15)),.t (tI (cI p6 3 16)),.t (tI (cI p6 3 17)),.t (tI (cI p6 3 18))],.box [AV.ptr 3 0,AV.ptr 3 18]])) (again10
 ([.t (.bool ((gI y8 2) != 0))],[.box [.t (tI (cI p6 0 0)),.t (tI (cI p6 0 1)),.t (tI (cI p6 0 2)),.t (tI (cI p6 0 3)),.t (tI (cI p6 0 4)),.t (tI (cI p6 0 5)),AV.t
 (tI (cI p6 0 6)),.t (tI (cI p6 0 7)),.t (tI (cI p6 0 8)),.t (tI (cI p6 0 9)),.t (.bool (cB p6 0 10)),.t (.str (cS p6 0 11)),.t (tI (cI p6 0 12)),.t (tI (cI p6 0 13)),AV.t
 (tI (cI p6 0 14)),.t (tI (cI p6 0 15)),.t (tI (cI p6 0 16)),.t (tI (cI p6 0 17)),.t (tI (cI p6 0 18))],.box [.t (.str (cS p6 1 0)),.t (.bool (cB p6 1 1))],.box [AV.t
 (tI (cI p6 2 0)),.t (tI (cI p6 2 1)),.t (tI (cI p6 2 2)),.t (tI (cI p6 2 3)),.t (tI (cI p6 2 4)),.t (tI (cI p6 2 5)),.t (tI (cI p6 2 6)),.t (tI (cI p6 2 7)),.t (tI (cI p6 2
 8)),.t (tI (cI p6 2 9)),.t (.bool (cB p6 2 10)),.t (.str (cS p6 2 11)),.t (tI (cI p6 2 12)),.t (tI (cI p6 2 13)),.t (tI (cI p6 2 14)),.t (tI (cI p6 2 15)),.t (tI (cI p6
 2 16)),.t (tI (cI p6 2 17)),.t (tI (cI p6 2 18))],.box [.t (tI (cI p6 3 0)),.t (tI (cI p6 3 1)),.t (tI (cI p6 3 2)),.t (tI (cI p6 3 3)),.t (tI (cI p6 3 4)),.t (tI (cI p6 3
 5)),.t (tI (cI p6 3 6)),.t (tI (cI p6 3 7)),.t (tI (cI p6 3 8)),.t (tI (cI p6 3 9)),.t (.bool (cB p6 3 10)),.t (.str (cS p6 3 11)),.t (tI (cI p6 3 12)),.t (tI (cI p6 3
 13)),.t (tI (cI p6 3 14)),.t (tI (cI p6 3 15)),.t (tI (cI p6 3 16)),.t (tI (cI p6 3 17)),.t (tI (cI p6 3 18))],.box [AV.ptr 3 0,AV.ptr 3 18]]))) none)
 none) none) none) (cnd (vI p6 0=((0:Nat):Int)) (Option.bind (AB C n 83 [.str (cS p6 1 0)]) fun y11=>cnd (length y11=3) (cnd (okI y11 0) (cnd (okI y11 1) (cnd (okI y11 2)
 (join (fun (p12:List AV×Heap)=>VK n y11 again7 p6 p12) fun (again13:_→Option (List Tree))=>cnd (cB p6 1 1=true) (again13 ([.t (.bool true)],[.box [.t (tI (cI p6 0 0)),
 .t (tI (cI p6 0 1)),.t (tI (cI p6 0 2)),.t (tI (cI p6 0 3)),.t (tI (cI p6 0 4)),.t (tI (cI p6 0 5)),.t (tI (cI p6 0 6)),.t (tI (cI p6 0 7)),.t (tI (cI p6 0 8)),.t (tI (cI p6
 0 9)),.t (.bool (cB p6 0 10)),.t (.str (cS p6 0 11)),.t (tI (cI p6 0 12)),.t (tI (cI p6 0 13)),.t (tI (cI p6 0 14)),.t (tI (cI p6 0 15)),.t (tI (cI p6 0 16)),.t (tI (cI
 p6 0 17)),.t (tI (cI p6 0 18))],.box [.t (.str (cS p6 1 0)),.t (.bool (cB p6 1 1))],.box [.t (tI (cI p6 2 0)),.t (tI (cI p6 2 1)),.t (tI (cI p6 2 2)),.t (tI (cI p6
 2 3)),.t (tI (cI p6 2 4)),.t (tI (cI p6 2 5)),.t (tI (cI p6 2 6)),.t (tI (cI p6 2 7)),.t (tI (cI p6 2 8)),.t (tI (cI p6 2 9)),.t (.bool (cB p6 2 10)),.t (.str (cS p6 2
 11)),.t (tI (cI p6 2 12)),.t (tI (cI p6 2 13)),.t (tI (cI p6 2 14)),.t (tI (cI p6 2 15)),.t (tI (cI p6 2 16)),.t (tI (cI p6 2 17)),.t (tI (cI p6 2 18))],.box [.t (tI (cI p6
 3 0)),.t (tI (cI p6 3 1)),.t (tI (cI p6 3 2)),.t (tI (cI p6 3 3)),.t (tI (cI p6 3 4)),.t (tI (cI p6 3 5)),.t (tI (cI p6 3 6)),.t (tI (cI p6 3 7)),.t (tI (cI p6 3 8)),.t (tI
 (cI p6 3 9)),.t (.bool (cB p6 3 10)),.t (.str (cS p6 3 11)),.t (tI (cI p6 3 12)),.t (tI (cI p6 3 13)),.t (tI (cI p6 3 14)),.t (tI (cI p6 3 15)),.t (tI (cI p6 3 16)),AV.t
 (tI (cI p6 3 17)),.t (tI (cI p6 3 18))],.box [AV.ptr 3 0,AV.ptr 3 18]])) (again13 ([.t (.bool ((gI y11 2) != 0))],[.box [.t (tI (cI p6 0 0)),AV.t
 (tI (cI p6 0 1)),.t (tI (cI p6 0 2)),.t (tI (cI p6 0 3)),.t (tI (cI p6 0 4)),.t (tI (cI p6 0 5)),.t (tI (cI p6 0 6)),.t (tI (cI p6 0 7)),.t (tI (cI p6 0 8)),.t (tI (cI p6 0
 9)),.t (.bool (cB p6 0 10)),.t (.str (cS p6 0 11)),.t (tI (cI p6 0 12)),.t (tI (cI p6 0 13)),.t (tI (cI p6 0 14)),.t (tI (cI p6 0 15)),.t (tI (cI p6 0 16)),.t (tI (cI
 p6 0 17)),.t (tI (cI p6 0 18))],.box [.t (.str (cS p6 1 0)),.t (.bool (cB p6 1 1))],.box [.t (tI (cI p6 2 0)),.t (tI (cI p6 2 1)),.t (tI (cI p6 2 2)),.t (tI (cI p6
 2 3)),.t (tI (cI p6 2 4)),.t (tI (cI p6 2 5)),.t (tI (cI p6 2 6)),.t (tI (cI p6 2 7)),.t (tI (cI p6 2 8)),.t (tI (cI p6 2 9)),.t (.bool (cB p6 2 10)),.t (.str (cS p6 2
 11)),.t (tI (cI p6 2 12)),.t (tI (cI p6 2 13)),.t (tI (cI p6 2 14)),.t (tI (cI p6 2 15)),.t (tI (cI p6 2 16)),.t (tI (cI p6 2 17)),.t (tI (cI p6 2 18))],.box [.t (tI (cI p6
 3 0)),.t (tI (cI p6 3 1)),.t (tI (cI p6 3 2)),.t (tI (cI p6 3 3)),.t (tI (cI p6 3 4)),.t (tI (cI p6 3 5)),.t (tI (cI p6 3 6)),.t (tI (cI p6 3 7)),.t (tI (cI p6 3 8)),.t (tI
 (cI p6 3 9)),.t (.bool (cB p6 3 10)),.t (.str (cS p6 3 11)),.t (tI (cI p6 3 12)),.t (tI (cI p6 3 13)),.t (tI (cI p6 3 14)),.t (tI (cI p6 3 15)),.t (tI (cI p6 3 16)),AV.t
 (tI (cI p6 3 17)),.t (tI (cI p6 3 18))],.box [AV.ptr 3 0,AV.ptr 3 18]]))) none) none) none) none) none)) none) (again5 ([],[.box [.t (tI (cI p6 0 0)),.t (tI
 (cI p6 0 1)),.t (tI (cI p6 0 2)),.t (tI (cI p6 0 3)),.t (tI (cI p6 0 4)),.t (tI (cI p6 0 5)),.t (tI (cI p6 0 6)),.t (tI (cI p6 0 7)),.t (tI (cI p6 0 8)),.t (tI (cI p6 0 9)),
 .t (.bool (cB p6 0 10)),.t (.str (cS p6 0 11)),.t (tI (cI p6 0 12)),.t (tI (cI p6 0 13)),.t (tI (cI p6 0 14)),.t (tI (cI p6 0 15)),.t (tI (cI p6 0 16)),.t (tI (cI p6 0
 17)),.t (tI (cI p6 0 18))],.box [.t (.str (cS p6 1 0)),.t (.bool (cB p6 1 1))],.box [.t (tI (cI p6 2 0)),.t (tI (cI p6 2 1)),.t (tI (cI p6 2 2)),.t (tI (cI p6 2
 3)),.t (tI (cI p6 2 4)),.t (tI (cI p6 2 5)),.t (tI (cI p6 2 6)),.t (tI (cI p6 2 7)),.t (tI (cI p6 2 8)),.t (tI (cI p6 2 9)),.t (.bool (cB p6 2 10)),.t (.str (cS p6 2
 11)),.t (tI (cI p6 2 12)),.t (tI (cI p6 2 13)),.t (tI (cI p6 2 14)),.t (tI (cI p6 2 15)),.t (tI (cI p6 2 16)),.t (tI (cI p6 2 17)),.t (tI (cI p6 2 18))],.box [.t (tI (cI p6
 3 0)),.t (tI (cI p6 3 1)),.t (tI (cI p6 3 2)),.t (tI (cI p6 3 3)),.t (tI (cI p6 3 4)),.t (tI (cI p6 3 5)),.t (tI (cI p6 3 6)),.t (tI (cI p6 3 7)),.t (tI (cI p6 3 8)),.t (tI
 (cI p6 3 9)),.t (.bool (cB p6 3 10)),.t (.str (cS p6 3 11)),.t (tI (cI p6 3 12)),.t (tI (cI p6 3 13)),.t (tI (cI p6 3 14)),.t (tI (cI p6 3 15)),.t (tI (cI p6 3 16)),AV.t
 (tI (cI p6 3 17)),.t (tI (cI p6 3 18))],.box [AV.ptr 3 0,AV.ptr 3 18]]))
noncomputable def J57_4 (n:Nat) (y20:List Tree) (again19:(List AV×Heap)→Option (List Tree)) (p18:List AV×Heap) (p21:List AV×Heap):Option (List Tree):=
 cnd (vB p21 0=true) none (cnd ((0:Int)≤gI y20 1∧gI y20 1≤((ByteArray.size (cS p21 1 0):Nat):Int)) (again19 ([.t (tI (w64 ((vI p18 0)+1)))],[.box [.t (tI (cI p21 0 0)),AV.t
 (tI (cI p21 0 1)),.t (tI (cI p21 0 2)),.t (tI (cI p21 0 3)),.t (tI (cI p21 0 4)),.t (tI (cI p21 0 5)),.t (tI (cI p21 0 6)),.t (tI (cI p21 0 7)),.t (tI (cI p21 0 8)),.t (tI (cI
 p21 0 9)),.t (.bool (cB p21 0 10)),.t (.str (cS p21 0 11)),.t (tI (cI p21 0 12)),.t (tI (cI p21 0 13)),.t (tI (cI p21 0 14)),.t (tI (cI p21 0 15)),.t (tI (cI p21 0 16)),
 .t (tI (cI p21 0 17)),.t (tI (cI p21 0 18))],.box [.t (.str (ByteArray.extract (cS p21 1 0) (toNat (gI y20 1)) (ByteArray.size (cS p21 1 0)))),.t (.bool (cB p21 1 1))],
 .box [.t (tI (cI p21 2 0)),.t (tI (cI p21 2 1)),.t (tI (cI p21 2 2)),.t (tI (cI p21 2 3)),.t (tI (cI p21 2 4)),.t (tI (cI p21 2 5)),.t (tI (cI p21 2 6)),.t (tI (cI p21 2
 7)),.t (tI (cI p21 2 8)),.t (tI (cI p21 2 9)),.t (.bool (cB p21 2 10)),.t (.str (cS p21 2 11)),.t (tI (cI p21 2 12)),.t (tI (cI p21 2 13)),.t (tI (cI p21 2 14)),.t (tI
 (cI p21 2 15)),.t (tI (cI p21 2 16)),.t (tI (cI p21 2 17)),.t (tI (cI p21 2 18))],.box [.t (tI (cI p21 3 0)),.t (tI (gI y20 0)),.t (tI (cI p21 3 2)),.t (tI (cI p21 3 3)),AV.t
 (tI (cI p21 3 4)),.t (tI (cI p21 3 5)),.t (tI (cI p21 3 6)),.t (tI (cI p21 3 7)),.t (tI (cI p21 3 8)),.t (tI (cI p21 3 9)),.t (.bool (cB p21 3 10)),.t (.str (cS p21 3
 11)),.t (tI (cI p21 3 12)),.t (tI (cI p21 3 13)),.t (tI (cI p21 3 14)),.t (tI (cI p21 3 15)),.t (tI (cI p21 3 16)),.t (tI (cI p21 3 17)),.t (tI (cI p21 3 18))],.box [AV.ptr
 3 0,AV.ptr 3 18],.box [AV.ptr 3 1]])) none)
noncomputable def U2 (n:Nat) (again17:(List AV×Heap)→Option (List Tree)) (p18:List AV×Heap) (again19:(List AV×Heap)→Option (List Tree)):Option (List Tree):=
 cnd (decide (vI p18 0<1)=true) (cnd (1=1∧(0:Int)≤vI p18 0∧vI p18 0<1) (cnd (vI p18 0=((0:Nat):Int)) (Option.bind (AB C n 83 [.str (cS p18 1 0)])
 fun y20=>cnd (length y20=3) (cnd (okI y20 0) (cnd (okI y20 1) (cnd (okI y20 2) (join (fun (p21:List AV×Heap)=>J57_4 n y20 again19 p18 p21) fun (again22:_→Option (List Tree))
 =>cnd (cB p18 1 1=true) (again22 ([.t (.bool true)],[.box [.t (tI (cI p18 0 0)),.t (tI (cI p18 0 1)),.t (tI (cI p18 0 2)),.t (tI (cI p18 0 3)),.t (tI (cI p18 0 4)),AV.t
 (tI (cI p18 0 5)),.t (tI (cI p18 0 6)),.t (tI (cI p18 0 7)),.t (tI (cI p18 0 8)),.t (tI (cI p18 0 9)),.t (.bool (cB p18 0 10)),.t (.str (cS p18 0 11)),.t (tI (cI p18 0
 12)),.t (tI (cI p18 0 13)),.t (tI (cI p18 0 14)),.t (tI (cI p18 0 15)),.t (tI (cI p18 0 16)),.t (tI (cI p18 0 17)),.t (tI (cI p18 0 18))],.box [.t (.str (cS p18 1 0)),
 .t (.bool (cB p18 1 1))],.box [.t (tI (cI p18 2 0)),.t (tI (cI p18 2 1)),.t (tI (cI p18 2 2)),.t (tI (cI p18 2 3)),.t (tI (cI p18 2 4)),.t (tI (cI p18 2 5)),.t (tI (cI
 p18 2 6)),.t (tI (cI p18 2 7)),.t (tI (cI p18 2 8)),.t (tI (cI p18 2 9)),.t (.bool (cB p18 2 10)),.t (.str (cS p18 2 11)),.t (tI (cI p18 2 12)),.t (tI (cI p18 2 13)),AV.t
 (tI (cI p18 2 14)),.t (tI (cI p18 2 15)),.t (tI (cI p18 2 16)),.t (tI (cI p18 2 17)),.t (tI (cI p18 2 18))],.box [.t (tI (cI p18 3 0)),.t (tI (cI p18 3 1)),.t (tI (cI p18 3
 2)),.t (tI (cI p18 3 3)),.t (tI (cI p18 3 4)),.t (tI (cI p18 3 5)),.t (tI (cI p18 3 6)),.t (tI (cI p18 3 7)),.t (tI (cI p18 3 8)),.t (tI (cI p18 3 9)),.t (.bool (cB p18 3
 10)),.t (.str (cS p18 3 11)),.t (tI (cI p18 3 12)),.t (tI (cI p18 3 13)),.t (tI (cI p18 3 14)),.t (tI (cI p18 3 15)),.t (tI (cI p18 3 16)),.t (tI (cI p18 3 17)),.t (tI (cI
 p18 3 18))],.box [AV.ptr 3 0,AV.ptr 3 18],.box [AV.ptr 3 1]])) (again22 ([.t (.bool ((gI y20 2) != 0))],[.box [.t (tI (cI p18 0 0)),
 .t (tI (cI p18 0 1)),.t (tI (cI p18 0 2)),.t (tI (cI p18 0 3)),.t (tI (cI p18 0 4)),.t (tI (cI p18 0 5)),.t (tI (cI p18 0 6)),.t (tI (cI p18 0 7)),.t (tI (cI p18 0 8)),.t (tI
 (cI p18 0 9)),.t (.bool (cB p18 0 10)),.t (.str (cS p18 0 11)),.t (tI (cI p18 0 12)),.t (tI (cI p18 0 13)),.t (tI (cI p18 0 14)),.t (tI (cI p18 0 15)),.t (tI (cI p18 0
 16)),.t (tI (cI p18 0 17)),.t (tI (cI p18 0 18))],.box [.t (.str (cS p18 1 0)),.t (.bool (cB p18 1 1))],.box [.t (tI (cI p18 2 0)),.t (tI (cI p18 2 1)),.t (tI (cI
 p18 2 2)),.t (tI (cI p18 2 3)),.t (tI (cI p18 2 4)),.t (tI (cI p18 2 5)),.t (tI (cI p18 2 6)),.t (tI (cI p18 2 7)),.t (tI (cI p18 2 8)),.t (tI (cI p18 2 9)),.t (.bool (cB
 p18 2 10)),.t (.str (cS p18 2 11)),.t (tI (cI p18 2 12)),.t (tI (cI p18 2 13)),.t (tI (cI p18 2 14)),.t (tI (cI p18 2 15)),.t (tI (cI p18 2 16)),.t (tI (cI p18 2 17)),AV.t
 (tI (cI p18 2 18))],.box [.t (tI (cI p18 3 0)),.t (tI (cI p18 3 1)),.t (tI (cI p18 3 2)),.t (tI (cI p18 3 3)),.t (tI (cI p18 3 4)),.t (tI (cI p18 3 5)),.t (tI (cI p18 3 6)),
 .t (tI (cI p18 3 7)),.t (tI (cI p18 3 8)),.t (tI (cI p18 3 9)),.t (.bool (cB p18 3 10)),.t (.str (cS p18 3 11)),.t (tI (cI p18 3 12)),.t (tI (cI p18 3 13)),.t (tI (cI
 p18 3 14)),.t (tI (cI p18 3 15)),.t (tI (cI p18 3 16)),.t (tI (cI p18 3 17)),.t (tI (cI p18 3 18))],.box [AV.ptr 3 0,AV.ptr 3 18],.box [AV.ptr 3
 1]]))) none) none) none) none) none) none) (again17 ([],[.box [.t (tI (cI p18 0 0)),.t (tI (cI p18 0 1)),.t (tI (cI p18 0 2)),.t (tI (cI p18 0 3)),.t (tI (cI p18 0 4)),AV.t
 (tI (cI p18 0 5)),.t (tI (cI p18 0 6)),.t (tI (cI p18 0 7)),.t (tI (cI p18 0 8)),.t (tI (cI p18 0 9)),.t (.bool (cB p18 0 10)),.t (.str (cS p18 0 11)),.t (tI (cI p18 0
 12)),.t (tI (cI p18 0 13)),.t (tI (cI p18 0 14)),.t (tI (cI p18 0 15)),.t (tI (cI p18 0 16)),.t (tI (cI p18 0 17)),.t (tI (cI p18 0 18))],.box [.t (.str (cS p18 1 0)),
 .t (.bool (cB p18 1 1))],.box [.t (tI (cI p18 2 0)),.t (tI (cI p18 2 1)),.t (tI (cI p18 2 2)),.t (tI (cI p18 2 3)),.t (tI (cI p18 2 4)),.t (tI (cI p18 2 5)),.t (tI (cI
 p18 2 6)),.t (tI (cI p18 2 7)),.t (tI (cI p18 2 8)),.t (tI (cI p18 2 9)),.t (.bool (cB p18 2 10)),.t (.str (cS p18 2 11)),.t (tI (cI p18 2 12)),.t (tI (cI p18 2 13)),AV.t
 (tI (cI p18 2 14)),.t (tI (cI p18 2 15)),.t (tI (cI p18 2 16)),.t (tI (cI p18 2 17)),.t (tI (cI p18 2 18))],.box [.t (tI (cI p18 3 0)),.t (tI (cI p18 3 1)),.t (tI (cI p18 3
 2)),.t (tI (cI p18 3 3)),.t (tI (cI p18 3 4)),.t (tI (cI p18 3 5)),.t (tI (cI p18 3 6)),.t (tI (cI p18 3 7)),.t (tI (cI p18 3 8)),.t (tI (cI p18 3 9)),.t (.bool (cB p18 3
 10)),.t (.str (cS p18 3 11)),.t (tI (cI p18 3 12)),.t (tI (cI p18 3 13)),.t (tI (cI p18 3 14)),.t (tI (cI p18 3 15)),.t (tI (cI p18 3 16)),.t (tI (cI p18 3 17)),.t (tI (cI
 p18 3 18))],.box [AV.ptr 3 0,AV.ptr 3 18],.box [AV.ptr 3 1]]))
noncomputable def M8 (n:Nat) (y27:List Tree) (again26:(List AV×Heap)→Option (List Tree)) (p25:List AV×Heap) (p28:List AV×Heap):Option (List Tree):=
 cnd (vB p28 0=true) none (cnd ((0:Int)≤gI y27 1∧gI y27 1≤((ByteArray.size (cS p28 1 0):Nat):Int)) (again26 ([.t (tI (w64 ((vI p25 0)+1)))],[.box [.t (tI (cI p28 0 0)),AV.t
 (tI (cI p28 0 1)),.t (tI (cI p28 0 2)),.t (tI (cI p28 0 3)),.t (tI (cI p28 0 4)),.t (tI (cI p28 0 5)),.t (tI (cI p28 0 6)),.t (tI (cI p28 0 7)),.t (tI (cI p28 0 8)),.t (tI (cI
 p28 0 9)),.t (.bool (cB p28 0 10)),.t (.str (cS p28 0 11)),.t (tI (cI p28 0 12)),.t (tI (cI p28 0 13)),.t (tI (cI p28 0 14)),.t (tI (cI p28 0 15)),.t (tI (cI p28 0 16)),
 .t (tI (cI p28 0 17)),.t (tI (cI p28 0 18))],.box [.t (.str (ByteArray.extract (cS p28 1 0) (toNat (gI y27 1)) (ByteArray.size (cS p28 1 0)))),.t (.bool (cB p28 1 1))],
 .box [.t (tI (cI p28 2 0)),.t (tI (cI p28 2 1)),.t (tI (cI p28 2 2)),.t (tI (cI p28 2 3)),.t (tI (cI p28 2 4)),.t (tI (cI p28 2 5)),.t (tI (cI p28 2 6)),.t (tI (cI p28 2
 7)),.t (tI (cI p28 2 8)),.t (tI (cI p28 2 9)),.t (.bool (cB p28 2 10)),.t (.str (cS p28 2 11)),.t (tI (cI p28 2 12)),.t (tI (cI p28 2 13)),.t (tI (cI p28 2 14)),.t (tI
 (cI p28 2 15)),.t (tI (cI p28 2 16)),.t (tI (cI p28 2 17)),.t (tI (cI p28 2 18))],.box [.t (tI (cI p28 3 0)),.t (tI (cI p28 3 1)),.t (tI (cI p28 3 2)),.t (tI (cI p28 3 3)),
 .t (tI (cI p28 3 4)),.t (tI (cI p28 3 5)),.t (tI (gI y27 0)),.t (tI (cI p28 3 7)),.t (tI (cI p28 3 8)),.t (tI (cI p28 3 9)),.t (.bool (cB p28 3 10)),.t (.str (cS p28 3
 11)),.t (tI (cI p28 3 12)),.t (tI (cI p28 3 13)),.t (tI (cI p28 3 14)),.t (tI (cI p28 3 15)),.t (tI (cI p28 3 16)),.t (tI (cI p28 3 17)),.t (tI (cI p28 3 18))],.box [AV.ptr
 3 0,AV.ptr 3 18],.box [AV.ptr 3 1],.box [AV.ptr 3 2,AV.ptr 3 3,AV.ptr 3 4,AV.ptr 3 5,AV.ptr 3
 6]])) none)
noncomputable def M7 (n:Nat) (y30:List Tree) (again26:(List AV×Heap)→Option (List Tree)) (p25:List AV×Heap) (p31:List AV×Heap):Option (List Tree):=
 cnd (vB p31 0=true) none (cnd ((0:Int)≤gI y30 1∧gI y30 1≤((ByteArray.size (cS p31 1 0):Nat):Int)) (again26 ([.t (tI (w64 ((vI p25 0)+1)))],[.box [.t (tI (cI p31 0 0)),AV.t
 (tI (cI p31 0 1)),.t (tI (cI p31 0 2)),.t (tI (cI p31 0 3)),.t (tI (cI p31 0 4)),.t (tI (cI p31 0 5)),.t (tI (cI p31 0 6)),.t (tI (cI p31 0 7)),.t (tI (cI p31 0 8)),.t (tI (cI
 p31 0 9)),.t (.bool (cB p31 0 10)),.t (.str (cS p31 0 11)),.t (tI (cI p31 0 12)),.t (tI (cI p31 0 13)),.t (tI (cI p31 0 14)),.t (tI (cI p31 0 15)),.t (tI (cI p31 0 16)),
 .t (tI (cI p31 0 17)),.t (tI (cI p31 0 18))],.box [.t (.str (ByteArray.extract (cS p31 1 0) (toNat (gI y30 1)) (ByteArray.size (cS p31 1 0)))),.t (.bool (cB p31 1 1))],
 .box [.t (tI (cI p31 2 0)),.t (tI (cI p31 2 1)),.t (tI (cI p31 2 2)),.t (tI (cI p31 2 3)),.t (tI (cI p31 2 4)),.t (tI (cI p31 2 5)),.t (tI (cI p31 2 6)),.t (tI (cI p31 2
 7)),.t (tI (cI p31 2 8)),.t (tI (cI p31 2 9)),.t (.bool (cB p31 2 10)),.t (.str (cS p31 2 11)),.t (tI (cI p31 2 12)),.t (tI (cI p31 2 13)),.t (tI (cI p31 2 14)),.t (tI
 (cI p31 2 15)),.t (tI (cI p31 2 16)),.t (tI (cI p31 2 17)),.t (tI (cI p31 2 18))],.box [.t (tI (cI p31 3 0)),.t (tI (cI p31 3 1)),.t (tI (cI p31 3 2)),.t (tI (cI p31 3 3)),
 .t (tI (cI p31 3 4)),.t (tI (gI y30 0)),.t (tI (cI p31 3 6)),.t (tI (cI p31 3 7)),.t (tI (cI p31 3 8)),.t (tI (cI p31 3 9)),.t (.bool (cB p31 3 10)),.t (.str (cS p31 3
 11)),.t (tI (cI p31 3 12)),.t (tI (cI p31 3 13)),.t (tI (cI p31 3 14)),.t (tI (cI p31 3 15)),.t (tI (cI p31 3 16)),.t (tI (cI p31 3 17)),.t (tI (cI p31 3 18))],.box [AV.ptr
 3 0,AV.ptr 3 18],.box [AV.ptr 3 1],.box [AV.ptr 3 2,AV.ptr 3 3,AV.ptr 3 4,AV.ptr 3 5,AV.ptr 3
 6]])) none)
noncomputable def M6 (n:Nat) (y33:List Tree) (again26:(List AV×Heap)→Option (List Tree)) (p25:List AV×Heap) (p34:List AV×Heap):Option (List Tree):=
 cnd (vB p34 0=true) none (cnd ((0:Int)≤gI y33 1∧gI y33 1≤((ByteArray.size (cS p34 1 0):Nat):Int)) (again26 ([.t (tI (w64 ((vI p25 0)+1)))],[.box [.t (tI (cI p34 0 0)),AV.t
 (tI (cI p34 0 1)),.t (tI (cI p34 0 2)),.t (tI (cI p34 0 3)),.t (tI (cI p34 0 4)),.t (tI (cI p34 0 5)),.t (tI (cI p34 0 6)),.t (tI (cI p34 0 7)),.t (tI (cI p34 0 8)),.t (tI (cI
 p34 0 9)),.t (.bool (cB p34 0 10)),.t (.str (cS p34 0 11)),.t (tI (cI p34 0 12)),.t (tI (cI p34 0 13)),.t (tI (cI p34 0 14)),.t (tI (cI p34 0 15)),.t (tI (cI p34 0 16)),
 .t (tI (cI p34 0 17)),.t (tI (cI p34 0 18))],.box [.t (.str (ByteArray.extract (cS p34 1 0) (toNat (gI y33 1)) (ByteArray.size (cS p34 1 0)))),.t (.bool (cB p34 1 1))],
 .box [.t (tI (cI p34 2 0)),.t (tI (cI p34 2 1)),.t (tI (cI p34 2 2)),.t (tI (cI p34 2 3)),.t (tI (cI p34 2 4)),.t (tI (cI p34 2 5)),.t (tI (cI p34 2 6)),.t (tI (cI p34 2
 7)),.t (tI (cI p34 2 8)),.t (tI (cI p34 2 9)),.t (.bool (cB p34 2 10)),.t (.str (cS p34 2 11)),.t (tI (cI p34 2 12)),.t (tI (cI p34 2 13)),.t (tI (cI p34 2 14)),.t (tI
 (cI p34 2 15)),.t (tI (cI p34 2 16)),.t (tI (cI p34 2 17)),.t (tI (cI p34 2 18))],.box [.t (tI (cI p34 3 0)),.t (tI (cI p34 3 1)),.t (tI (cI p34 3 2)),.t (tI (cI p34 3 3)),
 .t (tI (gI y33 0)),.t (tI (cI p34 3 5)),.t (tI (cI p34 3 6)),.t (tI (cI p34 3 7)),.t (tI (cI p34 3 8)),.t (tI (cI p34 3 9)),.t (.bool (cB p34 3 10)),.t (.str (cS p34 3
 11)),.t (tI (cI p34 3 12)),.t (tI (cI p34 3 13)),.t (tI (cI p34 3 14)),.t (tI (cI p34 3 15)),.t (tI (cI p34 3 16)),.t (tI (cI p34 3 17)),.t (tI (cI p34 3 18))],.box [AV.ptr
 3 0,AV.ptr 3 18],.box [AV.ptr 3 1],.box [AV.ptr 3 2,AV.ptr 3 3,AV.ptr 3 4,AV.ptr 3 5,AV.ptr 3
 6]])) none)
noncomputable def M5 (n:Nat) (y36:List Tree) (again26:(List AV×Heap)→Option (List Tree)) (p25:List AV×Heap) (p37:List AV×Heap):Option (List Tree):=
 cnd (vB p37 0=true) none (cnd ((0:Int)≤gI y36 1∧gI y36 1≤((ByteArray.size (cS p37 1 0):Nat):Int)) (again26 ([.t (tI (w64 ((vI p25 0)+1)))],[.box [.t (tI (cI p37 0 0)),AV.t
 (tI (cI p37 0 1)),.t (tI (cI p37 0 2)),.t (tI (cI p37 0 3)),.t (tI (cI p37 0 4)),.t (tI (cI p37 0 5)),.t (tI (cI p37 0 6)),.t (tI (cI p37 0 7)),.t (tI (cI p37 0 8)),.t (tI (cI
 p37 0 9)),.t (.bool (cB p37 0 10)),.t (.str (cS p37 0 11)),.t (tI (cI p37 0 12)),.t (tI (cI p37 0 13)),.t (tI (cI p37 0 14)),.t (tI (cI p37 0 15)),.t (tI (cI p37 0 16)),
 .t (tI (cI p37 0 17)),.t (tI (cI p37 0 18))],.box [.t (.str (ByteArray.extract (cS p37 1 0) (toNat (gI y36 1)) (ByteArray.size (cS p37 1 0)))),.t (.bool (cB p37 1 1))],
 .box [.t (tI (cI p37 2 0)),.t (tI (cI p37 2 1)),.t (tI (cI p37 2 2)),.t (tI (cI p37 2 3)),.t (tI (cI p37 2 4)),.t (tI (cI p37 2 5)),.t (tI (cI p37 2 6)),.t (tI (cI p37 2
 7)),.t (tI (cI p37 2 8)),.t (tI (cI p37 2 9)),.t (.bool (cB p37 2 10)),.t (.str (cS p37 2 11)),.t (tI (cI p37 2 12)),.t (tI (cI p37 2 13)),.t (tI (cI p37 2 14)),.t (tI
 (cI p37 2 15)),.t (tI (cI p37 2 16)),.t (tI (cI p37 2 17)),.t (tI (cI p37 2 18))],.box [.t (tI (cI p37 3 0)),.t (tI (cI p37 3 1)),.t (tI (cI p37 3 2)),.t (tI (gI y36 0)),AV.t
 (tI (cI p37 3 4)),.t (tI (cI p37 3 5)),.t (tI (cI p37 3 6)),.t (tI (cI p37 3 7)),.t (tI (cI p37 3 8)),.t (tI (cI p37 3 9)),.t (.bool (cB p37 3 10)),.t (.str (cS p37 3
 11)),.t (tI (cI p37 3 12)),.t (tI (cI p37 3 13)),.t (tI (cI p37 3 14)),.t (tI (cI p37 3 15)),.t (tI (cI p37 3 16)),.t (tI (cI p37 3 17)),.t (tI (cI p37 3 18))],.box [AV.ptr
 3 0,AV.ptr 3 18],.box [AV.ptr 3 1],.box [AV.ptr 3 2,AV.ptr 3 3,AV.ptr 3 4,AV.ptr 3 5,AV.ptr 3
 6]])) none)
noncomputable def Jm (n:Nat) (y39:List Tree) (again26:(List AV×Heap)→Option (List Tree)) (p25:List AV×Heap) (p40:List AV×Heap):Option (List Tree):=
 cnd (vB p40 0=true) none (cnd ((0:Int)≤gI y39 1∧gI y39 1≤((ByteArray.size (cS p40 1 0):Nat):Int)) (again26 ([.t (tI (w64 ((vI p25 0)+1)))],[.box [.t (tI (cI p40 0 0)),AV.t
 (tI (cI p40 0 1)),.t (tI (cI p40 0 2)),.t (tI (cI p40 0 3)),.t (tI (cI p40 0 4)),.t (tI (cI p40 0 5)),.t (tI (cI p40 0 6)),.t (tI (cI p40 0 7)),.t (tI (cI p40 0 8)),.t (tI (cI
 p40 0 9)),.t (.bool (cB p40 0 10)),.t (.str (cS p40 0 11)),.t (tI (cI p40 0 12)),.t (tI (cI p40 0 13)),.t (tI (cI p40 0 14)),.t (tI (cI p40 0 15)),.t (tI (cI p40 0 16)),
 .t (tI (cI p40 0 17)),.t (tI (cI p40 0 18))],.box [.t (.str (ByteArray.extract (cS p40 1 0) (toNat (gI y39 1)) (ByteArray.size (cS p40 1 0)))),.t (.bool (cB p40 1 1))],
 .box [.t (tI (cI p40 2 0)),.t (tI (cI p40 2 1)),.t (tI (cI p40 2 2)),.t (tI (cI p40 2 3)),.t (tI (cI p40 2 4)),.t (tI (cI p40 2 5)),.t (tI (cI p40 2 6)),.t (tI (cI p40 2
 7)),.t (tI (cI p40 2 8)),.t (tI (cI p40 2 9)),.t (.bool (cB p40 2 10)),.t (.str (cS p40 2 11)),.t (tI (cI p40 2 12)),.t (tI (cI p40 2 13)),.t (tI (cI p40 2 14)),.t (tI
 (cI p40 2 15)),.t (tI (cI p40 2 16)),.t (tI (cI p40 2 17)),.t (tI (cI p40 2 18))],.box [.t (tI (cI p40 3 0)),.t (tI (cI p40 3 1)),.t (tI (gI y39 0)),.t (tI (cI p40 3 3)),AV.t
 (tI (cI p40 3 4)),.t (tI (cI p40 3 5)),.t (tI (cI p40 3 6)),.t (tI (cI p40 3 7)),.t (tI (cI p40 3 8)),.t (tI (cI p40 3 9)),.t (.bool (cB p40 3 10)),.t (.str (cS p40 3
 11)),.t (tI (cI p40 3 12)),.t (tI (cI p40 3 13)),.t (tI (cI p40 3 14)),.t (tI (cI p40 3 15)),.t (tI (cI p40 3 16)),.t (tI (cI p40 3 17)),.t (tI (cI p40 3 18))],.box [AV.ptr
 3 0,AV.ptr 3 18],.box [AV.ptr 3 1],.box [AV.ptr 3 2,AV.ptr 3 3,AV.ptr 3 4,AV.ptr 3 5,AV.ptr 3
 6]])) none)
noncomputable def H9 (n:Nat) (again24:(List AV×Heap)→Option (List Tree)) (p25:List AV×Heap) (again26:(List AV×Heap)→Option (List Tree)):Option (List Tree):=
 cnd (decide (vI p25 0<5)=true) (cnd (1=1∧(0:Int)≤vI p25 0∧vI p25 0<5) (cnd (vI p25 0=((4:Nat):Int)) (Option.bind (AB C n 83 [.str (cS p25 1 0)])
 fun y27=>cnd (length y27=3) (cnd (okI y27 0) (cnd (okI y27 1) (cnd (okI y27 2) (join (fun (p28:List AV×Heap)=>M8 n y27 again26 p25 p28) fun (again29:_→Option (List Tree))
 =>cnd (cB p25 1 1=true) (again29 ([.t (.bool true)],[.box [.t (tI (cI p25 0 0)),.t (tI (cI p25 0 1)),.t (tI (cI p25 0 2)),.t (tI (cI p25 0 3)),.t (tI (cI p25 0 4)),AV.t
 (tI (cI p25 0 5)),.t (tI (cI p25 0 6)),.t (tI (cI p25 0 7)),.t (tI (cI p25 0 8)),.t (tI (cI p25 0 9)),.t (.bool (cB p25 0 10)),.t (.str (cS p25 0 11)),.t (tI (cI p25 0
 12)),.t (tI (cI p25 0 13)),.t (tI (cI p25 0 14)),.t (tI (cI p25 0 15)),.t (tI (cI p25 0 16)),.t (tI (cI p25 0 17)),.t (tI (cI p25 0 18))],.box [.t (.str (cS p25 1 0)),
 .t (.bool (cB p25 1 1))],.box [.t (tI (cI p25 2 0)),.t (tI (cI p25 2 1)),.t (tI (cI p25 2 2)),.t (tI (cI p25 2 3)),.t (tI (cI p25 2 4)),.t (tI (cI p25 2 5)),.t (tI (cI
 p25 2 6)),.t (tI (cI p25 2 7)),.t (tI (cI p25 2 8)),.t (tI (cI p25 2 9)),.t (.bool (cB p25 2 10)),.t (.str (cS p25 2 11)),.t (tI (cI p25 2 12)),.t (tI (cI p25 2 13)),AV.t
 (tI (cI p25 2 14)),.t (tI (cI p25 2 15)),.t (tI (cI p25 2 16)),.t (tI (cI p25 2 17)),.t (tI (cI p25 2 18))],.box [.t (tI (cI p25 3 0)),.t (tI (cI p25 3 1)),.t (tI (cI p25 3
 2)),.t (tI (cI p25 3 3)),.t (tI (cI p25 3 4)),.t (tI (cI p25 3 5)),.t (tI (cI p25 3 6)),.t (tI (cI p25 3 7)),.t (tI (cI p25 3 8)),.t (tI (cI p25 3 9)),.t (.bool (cB p25 3
 10)),.t (.str (cS p25 3 11)),.t (tI (cI p25 3 12)),.t (tI (cI p25 3 13)),.t (tI (cI p25 3 14)),.t (tI (cI p25 3 15)),.t (tI (cI p25 3 16)),.t (tI (cI p25 3 17)),.t (tI (cI
 p25 3 18))],.box [AV.ptr 3 0,AV.ptr 3 18],.box [AV.ptr 3 1],.box [AV.ptr 3 2,AV.ptr 3 3,AV.ptr 3 4,AV.ptr
 3 5,AV.ptr 3 6]])) (again29 ([.t (.bool ((gI y27 2) != 0))],[.box [.t (tI (cI p25 0 0)),.t (tI (cI p25 0 1)),.t (tI (cI p25 0 2)),.t (tI (cI p25 0
 3)),.t (tI (cI p25 0 4)),.t (tI (cI p25 0 5)),.t (tI (cI p25 0 6)),.t (tI (cI p25 0 7)),.t (tI (cI p25 0 8)),.t (tI (cI p25 0 9)),.t (.bool (cB p25 0 10)),.t (.str (cS
 p25 0 11)),.t (tI (cI p25 0 12)),.t (tI (cI p25 0 13)),.t (tI (cI p25 0 14)),.t (tI (cI p25 0 15)),.t (tI (cI p25 0 16)),.t (tI (cI p25 0 17)),.t (tI (cI p25 0 18))],.box
 [.t (.str (cS p25 1 0)),.t (.bool (cB p25 1 1))],.box [.t (tI (cI p25 2 0)),.t (tI (cI p25 2 1)),.t (tI (cI p25 2 2)),.t (tI (cI p25 2 3)),.t (tI (cI p25 2 4)),AV.t
 (tI (cI p25 2 5)),.t (tI (cI p25 2 6)),.t (tI (cI p25 2 7)),.t (tI (cI p25 2 8)),.t (tI (cI p25 2 9)),.t (.bool (cB p25 2 10)),.t (.str (cS p25 2 11)),.t (tI (cI p25 2
 12)),.t (tI (cI p25 2 13)),.t (tI (cI p25 2 14)),.t (tI (cI p25 2 15)),.t (tI (cI p25 2 16)),.t (tI (cI p25 2 17)),.t (tI (cI p25 2 18))],.box [.t (tI (cI p25 3 0)),.t (tI
 (cI p25 3 1)),.t (tI (cI p25 3 2)),.t (tI (cI p25 3 3)),.t (tI (cI p25 3 4)),.t (tI (cI p25 3 5)),.t (tI (cI p25 3 6)),.t (tI (cI p25 3 7)),.t (tI (cI p25 3 8)),.t (tI (cI p25
 3 9)),.t (.bool (cB p25 3 10)),.t (.str (cS p25 3 11)),.t (tI (cI p25 3 12)),.t (tI (cI p25 3 13)),.t (tI (cI p25 3 14)),.t (tI (cI p25 3 15)),.t (tI (cI p25 3 16)),AV.t
 (tI (cI p25 3 17)),.t (tI (cI p25 3 18))],.box [AV.ptr 3 0,AV.ptr 3 18],.box [AV.ptr 3 1],.box [AV.ptr 3 2,AV.ptr 3 3,
 AV.ptr 3 4,AV.ptr 3 5,AV.ptr 3 6]]))) none) none) none) none) (cnd (vI p25 0=((3:Nat):Int)) (Option.bind (AB C n 83 [.str (cS p25 1 0)]) fun y30=>
 cnd (length y30=3) (cnd (okI y30 0) (cnd (okI y30 1) (cnd (okI y30 2) (join (fun (p31:List AV×Heap)=>M7 n y30 again26 p25 p31) fun (again32:_→Option (List Tree))=>cnd (cB
 p25 1 1=true) (again32 ([.t (.bool true)],[.box [.t (tI (cI p25 0 0)),.t (tI (cI p25 0 1)),.t (tI (cI p25 0 2)),.t (tI (cI p25 0 3)),.t (tI (cI p25 0 4)),.t (tI (cI p25 0
 5)),.t (tI (cI p25 0 6)),.t (tI (cI p25 0 7)),.t (tI (cI p25 0 8)),.t (tI (cI p25 0 9)),.t (.bool (cB p25 0 10)),.t (.str (cS p25 0 11)),.t (tI (cI p25 0 12)),.t (tI
 (cI p25 0 13)),.t (tI (cI p25 0 14)),.t (tI (cI p25 0 15)),.t (tI (cI p25 0 16)),.t (tI (cI p25 0 17)),.t (tI (cI p25 0 18))],.box [.t (.str (cS p25 1 0)),.t (.bool
 (cB p25 1 1))],.box [.t (tI (cI p25 2 0)),.t (tI (cI p25 2 1)),.t (tI (cI p25 2 2)),.t (tI (cI p25 2 3)),.t (tI (cI p25 2 4)),.t (tI (cI p25 2 5)),.t (tI (cI p25 2 6)),AV.t
 (tI (cI p25 2 7)),.t (tI (cI p25 2 8)),.t (tI (cI p25 2 9)),.t (.bool (cB p25 2 10)),.t (.str (cS p25 2 11)),.t (tI (cI p25 2 12)),.t (tI (cI p25 2 13)),.t (tI (cI p25 2
 14)),.t (tI (cI p25 2 15)),.t (tI (cI p25 2 16)),.t (tI (cI p25 2 17)),.t (tI (cI p25 2 18))],.box [.t (tI (cI p25 3 0)),.t (tI (cI p25 3 1)),.t (tI (cI p25 3 2)),.t (tI
 (cI p25 3 3)),.t (tI (cI p25 3 4)),.t (tI (cI p25 3 5)),.t (tI (cI p25 3 6)),.t (tI (cI p25 3 7)),.t (tI (cI p25 3 8)),.t (tI (cI p25 3 9)),.t (.bool (cB p25 3 10)),AV.t
 (Tree.str (cS p25 3 11)),.t (tI (cI p25 3 12)),.t (tI (cI p25 3 13)),.t (tI (cI p25 3 14)),.t (tI (cI p25 3 15)),.t (tI (cI p25 3 16)),.t (tI (cI p25 3 17)),.t (tI (cI p25 3
 18))],.box [AV.ptr 3 0,AV.ptr 3 18],.box [AV.ptr 3 1],.box [AV.ptr 3 2,AV.ptr 3 3,AV.ptr 3 4,AV.ptr 3
 5,AV.ptr 3 6]])) (again32 ([.t (.bool ((gI y30 2) != 0))],[.box [.t (tI (cI p25 0 0)),.t (tI (cI p25 0 1)),.t (tI (cI p25 0 2)),.t (tI (cI p25 0 3)),
 .t (tI (cI p25 0 4)),.t (tI (cI p25 0 5)),.t (tI (cI p25 0 6)),.t (tI (cI p25 0 7)),.t (tI (cI p25 0 8)),.t (tI (cI p25 0 9)),.t (.bool (cB p25 0 10)),.t (.str (cS p25 0
 11)),.t (tI (cI p25 0 12)),.t (tI (cI p25 0 13)),.t (tI (cI p25 0 14)),.t (tI (cI p25 0 15)),.t (tI (cI p25 0 16)),.t (tI (cI p25 0 17)),.t (tI (cI p25 0 18))],.box [AV.t
 (Tree.str (cS p25 1 0)),.t (.bool (cB p25 1 1))],.box [.t (tI (cI p25 2 0)),.t (tI (cI p25 2 1)),.t (tI (cI p25 2 2)),.t (tI (cI p25 2 3)),.t (tI (cI p25 2 4)),.t (tI (cI
 p25 2 5)),.t (tI (cI p25 2 6)),.t (tI (cI p25 2 7)),.t (tI (cI p25 2 8)),.t (tI (cI p25 2 9)),.t (.bool (cB p25 2 10)),.t (.str (cS p25 2 11)),.t (tI (cI p25 2 12)),AV.t
 (tI (cI p25 2 13)),.t (tI (cI p25 2 14)),.t (tI (cI p25 2 15)),.t (tI (cI p25 2 16)),.t (tI (cI p25 2 17)),.t (tI (cI p25 2 18))],.box [.t (tI (cI p25 3 0)),.t (tI (cI p25 3
 1)),.t (tI (cI p25 3 2)),.t (tI (cI p25 3 3)),.t (tI (cI p25 3 4)),.t (tI (cI p25 3 5)),.t (tI (cI p25 3 6)),.t (tI (cI p25 3 7)),.t (tI (cI p25 3 8)),.t (tI (cI p25 3 9)),
 .t (.bool (cB p25 3 10)),.t (.str (cS p25 3 11)),.t (tI (cI p25 3 12)),.t (tI (cI p25 3 13)),.t (tI (cI p25 3 14)),.t (tI (cI p25 3 15)),.t (tI (cI p25 3 16)),.t (tI (cI
 p25 3 17)),.t (tI (cI p25 3 18))],.box [AV.ptr 3 0,AV.ptr 3 18],.box [AV.ptr 3 1],.box [AV.ptr 3 2,AV.ptr 3 3,AV.ptr
 3 4,AV.ptr 3 5,AV.ptr 3 6]]))) none) none) none) none) (cnd (vI p25 0=((2:Nat):Int)) (Option.bind (AB C n 83 [.str (cS p25 1 0)]) fun y33=>cnd
 (length y33=3) (cnd (okI y33 0) (cnd (okI y33 1) (cnd (okI y33 2) (join (fun (p34:List AV×Heap)=>M6 n y33 again26 p25 p34) fun (again35:_→Option (List Tree))=>cnd (cB p25 1
 1=true) (again35 ([.t (.bool true)],[.box [.t (tI (cI p25 0 0)),.t (tI (cI p25 0 1)),.t (tI (cI p25 0 2)),.t (tI (cI p25 0 3)),.t (tI (cI p25 0 4)),.t (tI (cI p25 0 5)),
 .t (tI (cI p25 0 6)),.t (tI (cI p25 0 7)),.t (tI (cI p25 0 8)),.t (tI (cI p25 0 9)),.t (.bool (cB p25 0 10)),.t (.str (cS p25 0 11)),.t (tI (cI p25 0 12)),.t (tI (cI p25
 0 13)),.t (tI (cI p25 0 14)),.t (tI (cI p25 0 15)),.t (tI (cI p25 0 16)),.t (tI (cI p25 0 17)),.t (tI (cI p25 0 18))],.box [.t (.str (cS p25 1 0)),.t (.bool (cB p25 1
 1))],.box [.t (tI (cI p25 2 0)),.t (tI (cI p25 2 1)),.t (tI (cI p25 2 2)),.t (tI (cI p25 2 3)),.t (tI (cI p25 2 4)),.t (tI (cI p25 2 5)),.t (tI (cI p25 2 6)),.t (tI (cI p25
 2 7)),.t (tI (cI p25 2 8)),.t (tI (cI p25 2 9)),.t (.bool (cB p25 2 10)),.t (.str (cS p25 2 11)),.t (tI (cI p25 2 12)),.t (tI (cI p25 2 13)),.t (tI (cI p25 2 14)),AV.t
 (tI (cI p25 2 15)),.t (tI (cI p25 2 16)),.t (tI (cI p25 2 17)),.t (tI (cI p25 2 18))],.box [.t (tI (cI p25 3 0)),.t (tI (cI p25 3 1)),.t (tI (cI p25 3 2)),.t (tI (cI p25 3
 3)),.t (tI (cI p25 3 4)),.t (tI (cI p25 3 5)),.t (tI (cI p25 3 6)),.t (tI (cI p25 3 7)),.t (tI (cI p25 3 8)),.t (tI (cI p25 3 9)),.t (.bool (cB p25 3 10)),.t (.str (cS
 p25 3 11)),.t (tI (cI p25 3 12)),.t (tI (cI p25 3 13)),.t (tI (cI p25 3 14)),.t (tI (cI p25 3 15)),.t (tI (cI p25 3 16)),.t (tI (cI p25 3 17)),.t (tI (cI p25 3 18))],.box
 [AV.ptr 3 0,AV.ptr 3 18],.box [AV.ptr 3 1],.box [AV.ptr 3 2,AV.ptr 3 3,AV.ptr 3 4,AV.ptr 3 5,AV.ptr
 3 6]])) (again35 ([.t (.bool ((gI y33 2) != 0))],[.box [.t (tI (cI p25 0 0)),.t (tI (cI p25 0 1)),.t (tI (cI p25 0 2)),.t (tI (cI p25 0 3)),.t (tI (cI p25 0
 4)),.t (tI (cI p25 0 5)),.t (tI (cI p25 0 6)),.t (tI (cI p25 0 7)),.t (tI (cI p25 0 8)),.t (tI (cI p25 0 9)),.t (.bool (cB p25 0 10)),.t (.str (cS p25 0 11)),.t (tI (cI
 p25 0 12)),.t (tI (cI p25 0 13)),.t (tI (cI p25 0 14)),.t (tI (cI p25 0 15)),.t (tI (cI p25 0 16)),.t (tI (cI p25 0 17)),.t (tI (cI p25 0 18))],.box [.t (.str (cS p25 1
 0)),.t (.bool (cB p25 1 1))],.box [.t (tI (cI p25 2 0)),.t (tI (cI p25 2 1)),.t (tI (cI p25 2 2)),.t (tI (cI p25 2 3)),.t (tI (cI p25 2 4)),.t (tI (cI p25 2 5)),.t (tI
 (cI p25 2 6)),.t (tI (cI p25 2 7)),.t (tI (cI p25 2 8)),.t (tI (cI p25 2 9)),.t (.bool (cB p25 2 10)),.t (.str (cS p25 2 11)),.t (tI (cI p25 2 12)),.t (tI (cI p25 2 13)),
 .t (tI (cI p25 2 14)),.t (tI (cI p25 2 15)),.t (tI (cI p25 2 16)),.t (tI (cI p25 2 17)),.t (tI (cI p25 2 18))],.box [.t (tI (cI p25 3 0)),.t (tI (cI p25 3 1)),.t (tI (cI p25
 3 2)),.t (tI (cI p25 3 3)),.t (tI (cI p25 3 4)),.t (tI (cI p25 3 5)),.t (tI (cI p25 3 6)),.t (tI (cI p25 3 7)),.t (tI (cI p25 3 8)),.t (tI (cI p25 3 9)),.t (.bool (cB p25 3
 10)),.t (.str (cS p25 3 11)),.t (tI (cI p25 3 12)),.t (tI (cI p25 3 13)),.t (tI (cI p25 3 14)),.t (tI (cI p25 3 15)),.t (tI (cI p25 3 16)),.t (tI (cI p25 3 17)),.t (tI (cI
 p25 3 18))],.box [AV.ptr 3 0,AV.ptr 3 18],.box [AV.ptr 3 1],.box [AV.ptr 3 2,AV.ptr 3 3,AV.ptr 3 4,AV.ptr
 3 5,AV.ptr 3 6]]))) none) none) none) none) (cnd (vI p25 0=((1:Nat):Int)) (Option.bind (AB C n 83 [.str (cS p25 1 0)]) fun y36=>cnd (length y36 =
 3) (cnd (okI y36 0) (cnd (okI y36 1) (cnd (okI y36 2) (join (fun (p37:List AV×Heap)=>M5 n y36 again26 p25 p37) fun (again38:_→Option (List Tree))=>cnd (cB p25 1 1=true) (again38
 ([.t (.bool true)],[.box [.t (tI (cI p25 0 0)),.t (tI (cI p25 0 1)),.t (tI (cI p25 0 2)),.t (tI (cI p25 0 3)),.t (tI (cI p25 0 4)),.t (tI (cI p25 0 5)),.t (tI (cI p25 0
 6)),.t (tI (cI p25 0 7)),.t (tI (cI p25 0 8)),.t (tI (cI p25 0 9)),.t (.bool (cB p25 0 10)),.t (.str (cS p25 0 11)),.t (tI (cI p25 0 12)),.t (tI (cI p25 0 13)),.t (tI
 (cI p25 0 14)),.t (tI (cI p25 0 15)),.t (tI (cI p25 0 16)),.t (tI (cI p25 0 17)),.t (tI (cI p25 0 18))],.box [.t (.str (cS p25 1 0)),.t (.bool (cB p25 1 1))],.box
 [.t (tI (cI p25 2 0)),.t (tI (cI p25 2 1)),.t (tI (cI p25 2 2)),.t (tI (cI p25 2 3)),.t (tI (cI p25 2 4)),.t (tI (cI p25 2 5)),.t (tI (cI p25 2 6)),.t (tI (cI p25 2 7)),AV.t
 (tI (cI p25 2 8)),.t (tI (cI p25 2 9)),.t (.bool (cB p25 2 10)),.t (.str (cS p25 2 11)),.t (tI (cI p25 2 12)),.t (tI (cI p25 2 13)),.t (tI (cI p25 2 14)),.t (tI (cI p25 2
 15)),.t (tI (cI p25 2 16)),.t (tI (cI p25 2 17)),.t (tI (cI p25 2 18))],.box [.t (tI (cI p25 3 0)),.t (tI (cI p25 3 1)),.t (tI (cI p25 3 2)),.t (tI (cI p25 3 3)),.t (tI (cI
 p25 3 4)),.t (tI (cI p25 3 5)),.t (tI (cI p25 3 6)),.t (tI (cI p25 3 7)),.t (tI (cI p25 3 8)),.t (tI (cI p25 3 9)),.t (.bool (cB p25 3 10)),.t (.str (cS p25 3 11)),AV.t
 (tI (cI p25 3 12)),.t (tI (cI p25 3 13)),.t (tI (cI p25 3 14)),.t (tI (cI p25 3 15)),.t (tI (cI p25 3 16)),.t (tI (cI p25 3 17)),.t (tI (cI p25 3 18))],.box [AV.ptr 3
 0,AV.ptr 3 18],.box [AV.ptr 3 1],.box [AV.ptr 3 2,AV.ptr 3 3,AV.ptr 3 4,AV.ptr 3 5,AV.ptr 3
 6]])) (again38 ([.t (.bool ((gI y36 2) != 0))],[.box [.t (tI (cI p25 0 0)),.t (tI (cI p25 0 1)),.t (tI (cI p25 0 2)),.t (tI (cI p25 0 3)),.t (tI (cI p25 0 4)),
 .t (tI (cI p25 0 5)),.t (tI (cI p25 0 6)),.t (tI (cI p25 0 7)),.t (tI (cI p25 0 8)),.t (tI (cI p25 0 9)),.t (.bool (cB p25 0 10)),.t (.str (cS p25 0 11)),.t (tI (cI p25
 0 12)),.t (tI (cI p25 0 13)),.t (tI (cI p25 0 14)),.t (tI (cI p25 0 15)),.t (tI (cI p25 0 16)),.t (tI (cI p25 0 17)),.t (tI (cI p25 0 18))],.box [.t (.str (cS p25 1 0)),
 .t (.bool (cB p25 1 1))],.box [.t (tI (cI p25 2 0)),.t (tI (cI p25 2 1)),.t (tI (cI p25 2 2)),.t (tI (cI p25 2 3)),.t (tI (cI p25 2 4)),.t (tI (cI p25 2 5)),.t (tI (cI
 p25 2 6)),.t (tI (cI p25 2 7)),.t (tI (cI p25 2 8)),.t (tI (cI p25 2 9)),.t (.bool (cB p25 2 10)),.t (.str (cS p25 2 11)),.t (tI (cI p25 2 12)),.t (tI (cI p25 2 13)),AV.t
 (tI (cI p25 2 14)),.t (tI (cI p25 2 15)),.t (tI (cI p25 2 16)),.t (tI (cI p25 2 17)),.t (tI (cI p25 2 18))],.box [.t (tI (cI p25 3 0)),.t (tI (cI p25 3 1)),.t (tI (cI p25 3
 2)),.t (tI (cI p25 3 3)),.t (tI (cI p25 3 4)),.t (tI (cI p25 3 5)),.t (tI (cI p25 3 6)),.t (tI (cI p25 3 7)),.t (tI (cI p25 3 8)),.t (tI (cI p25 3 9)),.t (.bool (cB p25 3
 10)),.t (.str (cS p25 3 11)),.t (tI (cI p25 3 12)),.t (tI (cI p25 3 13)),.t (tI (cI p25 3 14)),.t (tI (cI p25 3 15)),.t (tI (cI p25 3 16)),.t (tI (cI p25 3 17)),.t (tI (cI
 p25 3 18))],.box [AV.ptr 3 0,AV.ptr 3 18],.box [AV.ptr 3 1],.box [AV.ptr 3 2,AV.ptr 3 3,AV.ptr 3 4,AV.ptr
 3 5,AV.ptr 3 6]]))) none) none) none) none) (cnd (vI p25 0=((0:Nat):Int)) (Option.bind (AB C n 83 [.str (cS p25 1 0)]) fun y39=>cnd (length y39 =
 3) (cnd (okI y39 0) (cnd (okI y39 1) (cnd (okI y39 2) (join (fun (p40:List AV×Heap)=>Jm n y39 again26 p25 p40) fun (again41:_→Option (List Tree))=>cnd (cB p25 1 1=true)
 (again41 ([.t (.bool true)],[.box [.t (tI (cI p25 0 0)),.t (tI (cI p25 0 1)),.t (tI (cI p25 0 2)),.t (tI (cI p25 0 3)),.t (tI (cI p25 0 4)),.t (tI (cI p25 0 5)),.t (tI
 (cI p25 0 6)),.t (tI (cI p25 0 7)),.t (tI (cI p25 0 8)),.t (tI (cI p25 0 9)),.t (.bool (cB p25 0 10)),.t (.str (cS p25 0 11)),.t (tI (cI p25 0 12)),.t (tI (cI p25 0 13)),
 .t (tI (cI p25 0 14)),.t (tI (cI p25 0 15)),.t (tI (cI p25 0 16)),.t (tI (cI p25 0 17)),.t (tI (cI p25 0 18))],.box [.t (.str (cS p25 1 0)),.t (.bool (cB p25 1 1))],
 .box [.t (tI (cI p25 2 0)),.t (tI (cI p25 2 1)),.t (tI (cI p25 2 2)),.t (tI (cI p25 2 3)),.t (tI (cI p25 2 4)),.t (tI (cI p25 2 5)),.t (tI (cI p25 2 6)),.t (tI (cI p25 2
 7)),.t (tI (cI p25 2 8)),.t (tI (cI p25 2 9)),.t (.bool (cB p25 2 10)),.t (.str (cS p25 2 11)),.t (tI (cI p25 2 12)),.t (tI (cI p25 2 13)),.t (tI (cI p25 2 14)),.t (tI
 (cI p25 2 15)),.t (tI (cI p25 2 16)),.t (tI (cI p25 2 17)),.t (tI (cI p25 2 18))],.box [.t (tI (cI p25 3 0)),.t (tI (cI p25 3 1)),.t (tI (cI p25 3 2)),.t (tI (cI p25 3 3)),
 .t (tI (cI p25 3 4)),.t (tI (cI p25 3 5)),.t (tI (cI p25 3 6)),.t (tI (cI p25 3 7)),.t (tI (cI p25 3 8)),.t (tI (cI p25 3 9)),.t (.bool (cB p25 3 10)),.t (.str (cS p25 3
 11)),.t (tI (cI p25 3 12)),.t (tI (cI p25 3 13)),.t (tI (cI p25 3 14)),.t (tI (cI p25 3 15)),.t (tI (cI p25 3 16)),.t (tI (cI p25 3 17)),.t (tI (cI p25 3 18))],.box [AV.ptr
 3 0,AV.ptr 3 18],.box [AV.ptr 3 1],.box [AV.ptr 3 2,AV.ptr 3 3,AV.ptr 3 4,AV.ptr 3 5,AV.ptr 3
 6]])) (again41 ([.t (.bool ((gI y39 2) != 0))],[.box [.t (tI (cI p25 0 0)),.t (tI (cI p25 0 1)),.t (tI (cI p25 0 2)),.t (tI (cI p25 0 3)),.t (tI (cI p25 0 4)),
 .t (tI (cI p25 0 5)),.t (tI (cI p25 0 6)),.t (tI (cI p25 0 7)),.t (tI (cI p25 0 8)),.t (tI (cI p25 0 9)),.t (.bool (cB p25 0 10)),.t (.str (cS p25 0 11)),.t (tI (cI p25
 0 12)),.t (tI (cI p25 0 13)),.t (tI (cI p25 0 14)),.t (tI (cI p25 0 15)),.t (tI (cI p25 0 16)),.t (tI (cI p25 0 17)),.t (tI (cI p25 0 18))],.box [.t (.str (cS p25 1 0)),
 .t (.bool (cB p25 1 1))],.box [.t (tI (cI p25 2 0)),.t (tI (cI p25 2 1)),.t (tI (cI p25 2 2)),.t (tI (cI p25 2 3)),.t (tI (cI p25 2 4)),.t (tI (cI p25 2 5)),.t (tI (cI
 p25 2 6)),.t (tI (cI p25 2 7)),.t (tI (cI p25 2 8)),.t (tI (cI p25 2 9)),.t (.bool (cB p25 2 10)),.t (.str (cS p25 2 11)),.t (tI (cI p25 2 12)),.t (tI (cI p25 2 13)),AV.t
 (tI (cI p25 2 14)),.t (tI (cI p25 2 15)),.t (tI (cI p25 2 16)),.t (tI (cI p25 2 17)),.t (tI (cI p25 2 18))],.box [.t (tI (cI p25 3 0)),.t (tI (cI p25 3 1)),.t (tI (cI p25 3
 2)),.t (tI (cI p25 3 3)),.t (tI (cI p25 3 4)),.t (tI (cI p25 3 5)),.t (tI (cI p25 3 6)),.t (tI (cI p25 3 7)),.t (tI (cI p25 3 8)),.t (tI (cI p25 3 9)),.t (.bool (cB p25 3
 10)),.t (.str (cS p25 3 11)),.t (tI (cI p25 3 12)),.t (tI (cI p25 3 13)),.t (tI (cI p25 3 14)),.t (tI (cI p25 3 15)),.t (tI (cI p25 3 16)),.t (tI (cI p25 3 17)),.t (tI (cI
 p25 3 18))],.box [AV.ptr 3 0,AV.ptr 3 18],.box [AV.ptr 3 1],.box [AV.ptr 3 2,AV.ptr 3 3,AV.ptr 3 4,AV.ptr
 3 5,AV.ptr 3 6]]))) none) none) none) none) none))))) none) (again24 ([],[.box [.t (tI (cI p25 0 0)),.t (tI (cI p25 0 1)),.t (tI (cI p25 0 2)),.t (tI (cI p25 0
 3)),.t (tI (cI p25 0 4)),.t (tI (cI p25 0 5)),.t (tI (cI p25 0 6)),.t (tI (cI p25 0 7)),.t (tI (cI p25 0 8)),.t (tI (cI p25 0 9)),.t (.bool (cB p25 0 10)),.t (.str (cS
 p25 0 11)),.t (tI (cI p25 0 12)),.t (tI (cI p25 0 13)),.t (tI (cI p25 0 14)),.t (tI (cI p25 0 15)),.t (tI (cI p25 0 16)),.t (tI (cI p25 0 17)),.t (tI (cI p25 0 18))],.box
 [.t (.str (cS p25 1 0)),.t (.bool (cB p25 1 1))],.box [.t (tI (cI p25 2 0)),.t (tI (cI p25 2 1)),.t (tI (cI p25 2 2)),.t (tI (cI p25 2 3)),.t (tI (cI p25 2 4)),AV.t
 (tI (cI p25 2 5)),.t (tI (cI p25 2 6)),.t (tI (cI p25 2 7)),.t (tI (cI p25 2 8)),.t (tI (cI p25 2 9)),.t (.bool (cB p25 2 10)),.t (.str (cS p25 2 11)),.t (tI (cI p25 2
 12)),.t (tI (cI p25 2 13)),.t (tI (cI p25 2 14)),.t (tI (cI p25 2 15)),.t (tI (cI p25 2 16)),.t (tI (cI p25 2 17)),.t (tI (cI p25 2 18))],.box [.t (tI (cI p25 3 0)),.t (tI
 (cI p25 3 1)),.t (tI (cI p25 3 2)),.t (tI (cI p25 3 3)),.t (tI (cI p25 3 4)),.t (tI (cI p25 3 5)),.t (tI (cI p25 3 6)),.t (tI (cI p25 3 7)),.t (tI (cI p25 3 8)),.t (tI (cI p25
 3 9)),.t (.bool (cB p25 3 10)),.t (.str (cS p25 3 11)),.t (tI (cI p25 3 12)),.t (tI (cI p25 3 13)),.t (tI (cI p25 3 14)),.t (tI (cI p25 3 15)),.t (tI (cI p25 3 16)),AV.t
 (tI (cI p25 3 17)),.t (tI (cI p25 3 18))],.box [AV.ptr 3 0,AV.ptr 3 18],.box [AV.ptr 3 1],.box [AV.ptr 3 2,AV.ptr 3 3,
 AV.ptr 3 4,AV.ptr 3 5,AV.ptr 3 6]]))
noncomputable def Lu (n:Nat) (y46:List Tree) (again45:(List AV×Heap)→Option (List Tree)) (p44:List AV×Heap) (p47:List AV×Heap):Option (List Tree):=
 cnd (vB p47 0=true) none (cnd ((0:Int)≤gI y46 1∧gI y46 1≤((ByteArray.size (cS p47 1 0):Nat):Int)) (again45 ([.t (tI (w64 ((vI p44 0)+1)))],[.box [.t (tI (cI p47 0 0)),AV.t
 (tI (cI p47 0 1)),.t (tI (cI p47 0 2)),.t (tI (cI p47 0 3)),.t (tI (cI p47 0 4)),.t (tI (cI p47 0 5)),.t (tI (cI p47 0 6)),.t (tI (cI p47 0 7)),.t (tI (cI p47 0 8)),.t (tI (cI
 p47 0 9)),.t (.bool (cB p47 0 10)),.t (.str (cS p47 0 11)),.t (tI (cI p47 0 12)),.t (tI (cI p47 0 13)),.t (tI (cI p47 0 14)),.t (tI (cI p47 0 15)),.t (tI (cI p47 0 16)),
 .t (tI (cI p47 0 17)),.t (tI (cI p47 0 18))],.box [.t (.str (ByteArray.extract (cS p47 1 0) (toNat (gI y46 1)) (ByteArray.size (cS p47 1 0)))),.t (.bool (cB p47 1 1))],
 .box [.t (tI (cI p47 2 0)),.t (tI (cI p47 2 1)),.t (tI (cI p47 2 2)),.t (tI (cI p47 2 3)),.t (tI (cI p47 2 4)),.t (tI (cI p47 2 5)),.t (tI (cI p47 2 6)),.t (tI (cI p47 2
 7)),.t (tI (cI p47 2 8)),.t (tI (cI p47 2 9)),.t (.bool (cB p47 2 10)),.t (.str (cS p47 2 11)),.t (tI (cI p47 2 12)),.t (tI (cI p47 2 13)),.t (tI (cI p47 2 14)),.t (tI
 (cI p47 2 15)),.t (tI (cI p47 2 16)),.t (tI (cI p47 2 17)),.t (tI (cI p47 2 18))],.box [.t (tI (cI p47 3 0)),.t (tI (cI p47 3 1)),.t (tI (cI p47 3 2)),.t (tI (cI p47 3 3)),
 .t (tI (cI p47 3 4)),.t (tI (cI p47 3 5)),.t (tI (cI p47 3 6)),.t (tI (cI p47 3 7)),.t (tI (cI p47 3 8)),.t (tI (cI p47 3 9)),.t (.bool (cB p47 3 10)),.t (.str (cS p47 3
 11)),.t (tI (cI p47 3 12)),.t (tI (cI p47 3 13)),.t (tI (cI p47 3 14)),.t (tI (cI p47 3 15)),.t (tI (cI p47 3 16)),.t (tI (cI p47 3 17)),.t (tI (cI p47 3 18))],.box [AV.ptr
 3 0,AV.ptr 3 18],.box [AV.ptr 3 1],.box [AV.ptr 3 2,AV.ptr 3 3,AV.ptr 3 4,AV.ptr 3 5,AV.ptr 3
 6],.box [.t (tI (gI y46 0))],.box [AV.ptr 3 7,AV.ptr 3 8,AV.ptr 3 9,AV.ptr 7 0]])) none)
noncomputable def Lt (n:Nat) (y49:List Tree) (again45:(List AV×Heap)→Option (List Tree)) (p44:List AV×Heap) (p50:List AV×Heap):Option (List Tree):=
 cnd (vB p50 0=true) none (cnd ((0:Int)≤gI y49 1∧gI y49 1≤((ByteArray.size (cS p50 1 0):Nat):Int)) (again45 ([.t (tI (w64 ((vI p44 0)+1)))],[.box [.t (tI (cI p50 0 0)),AV.t
 (tI (cI p50 0 1)),.t (tI (cI p50 0 2)),.t (tI (cI p50 0 3)),.t (tI (cI p50 0 4)),.t (tI (cI p50 0 5)),.t (tI (cI p50 0 6)),.t (tI (cI p50 0 7)),.t (tI (cI p50 0 8)),.t (tI (cI
 p50 0 9)),.t (.bool (cB p50 0 10)),.t (.str (cS p50 0 11)),.t (tI (cI p50 0 12)),.t (tI (cI p50 0 13)),.t (tI (cI p50 0 14)),.t (tI (cI p50 0 15)),.t (tI (cI p50 0 16)),
 .t (tI (cI p50 0 17)),.t (tI (cI p50 0 18))],.box [.t (.str (ByteArray.extract (cS p50 1 0) (toNat (gI y49 1)) (ByteArray.size (cS p50 1 0)))),.t (.bool (cB p50 1 1))],
 .box [.t (tI (cI p50 2 0)),.t (tI (cI p50 2 1)),.t (tI (cI p50 2 2)),.t (tI (cI p50 2 3)),.t (tI (cI p50 2 4)),.t (tI (cI p50 2 5)),.t (tI (cI p50 2 6)),.t (tI (cI p50 2
 7)),.t (tI (cI p50 2 8)),.t (tI (cI p50 2 9)),.t (.bool (cB p50 2 10)),.t (.str (cS p50 2 11)),.t (tI (cI p50 2 12)),.t (tI (cI p50 2 13)),.t (tI (cI p50 2 14)),.t (tI
 (cI p50 2 15)),.t (tI (cI p50 2 16)),.t (tI (cI p50 2 17)),.t (tI (cI p50 2 18))],.box [.t (tI (cI p50 3 0)),.t (tI (cI p50 3 1)),.t (tI (cI p50 3 2)),.t (tI (cI p50 3 3)),
 .t (tI (cI p50 3 4)),.t (tI (cI p50 3 5)),.t (tI (cI p50 3 6)),.t (tI (cI p50 3 7)),.t (tI (cI p50 3 8)),.t (tI (gI y49 0)),.t (.bool (cB p50 3 10)),.t (.str (cS p50 3
 11)),.t (tI (cI p50 3 12)),.t (tI (cI p50 3 13)),.t (tI (cI p50 3 14)),.t (tI (cI p50 3 15)),.t (tI (cI p50 3 16)),.t (tI (cI p50 3 17)),.t (tI (cI p50 3 18))],.box [AV.ptr
 3 0,AV.ptr 3 18],.box [AV.ptr 3 1],.box [AV.ptr 3 2,AV.ptr 3 3,AV.ptr 3 4,AV.ptr 3 5,AV.ptr 3
 6],.box [.t (tI (cI p50 7 0))],.box [AV.ptr 3 7,AV.ptr 3 8,AV.ptr 3 9,AV.ptr 7 0]])) none)
noncomputable def Ls (n:Nat) (y52:List Tree) (again45:(List AV×Heap)→Option (List Tree)) (p44:List AV×Heap) (p53:List AV×Heap):Option (List Tree):=
 cnd (vB p53 0=true) none (cnd ((0:Int)≤gI y52 1∧gI y52 1≤((ByteArray.size (cS p53 1 0):Nat):Int)) (again45 ([.t (tI (w64 ((vI p44 0)+1)))],[.box [.t (tI (cI p53 0 0)),AV.t
 (tI (cI p53 0 1)),.t (tI (cI p53 0 2)),.t (tI (cI p53 0 3)),.t (tI (cI p53 0 4)),.t (tI (cI p53 0 5)),.t (tI (cI p53 0 6)),.t (tI (cI p53 0 7)),.t (tI (cI p53 0 8)),.t (tI (cI
 p53 0 9)),.t (.bool (cB p53 0 10)),.t (.str (cS p53 0 11)),.t (tI (cI p53 0 12)),.t (tI (cI p53 0 13)),.t (tI (cI p53 0 14)),.t (tI (cI p53 0 15)),.t (tI (cI p53 0 16)),
 .t (tI (cI p53 0 17)),.t (tI (cI p53 0 18))],.box [.t (.str (ByteArray.extract (cS p53 1 0) (toNat (gI y52 1)) (ByteArray.size (cS p53 1 0)))),.t (.bool (cB p53 1 1))],
 .box [.t (tI (cI p53 2 0)),.t (tI (cI p53 2 1)),.t (tI (cI p53 2 2)),.t (tI (cI p53 2 3)),.t (tI (cI p53 2 4)),.t (tI (cI p53 2 5)),.t (tI (cI p53 2 6)),.t (tI (cI p53 2
 7)),.t (tI (cI p53 2 8)),.t (tI (cI p53 2 9)),.t (.bool (cB p53 2 10)),.t (.str (cS p53 2 11)),.t (tI (cI p53 2 12)),.t (tI (cI p53 2 13)),.t (tI (cI p53 2 14)),.t (tI
 (cI p53 2 15)),.t (tI (cI p53 2 16)),.t (tI (cI p53 2 17)),.t (tI (cI p53 2 18))],.box [.t (tI (cI p53 3 0)),.t (tI (cI p53 3 1)),.t (tI (cI p53 3 2)),.t (tI (cI p53 3 3)),
 .t (tI (cI p53 3 4)),.t (tI (cI p53 3 5)),.t (tI (cI p53 3 6)),.t (tI (cI p53 3 7)),.t (tI (gI y52 0)),.t (tI (cI p53 3 9)),.t (.bool (cB p53 3 10)),.t (.str (cS p53 3
 11)),.t (tI (cI p53 3 12)),.t (tI (cI p53 3 13)),.t (tI (cI p53 3 14)),.t (tI (cI p53 3 15)),.t (tI (cI p53 3 16)),.t (tI (cI p53 3 17)),.t (tI (cI p53 3 18))],.box [AV.ptr
 3 0,AV.ptr 3 18],.box [AV.ptr 3 1],.box [AV.ptr 3 2,AV.ptr 3 3,AV.ptr 3 4,AV.ptr 3 5,AV.ptr 3
 6],.box [.t (tI (cI p53 7 0))],.box [AV.ptr 3 7,AV.ptr 3 8,AV.ptr 3 9,AV.ptr 7 0]])) none)
noncomputable def Lr (n:Nat) (y55:List Tree) (again45:(List AV×Heap)→Option (List Tree)) (p44:List AV×Heap) (p56:List AV×Heap):Option (List Tree):=
 cnd (vB p56 0=true) none (cnd ((0:Int)≤gI y55 1∧gI y55 1≤((ByteArray.size (cS p56 1 0):Nat):Int)) (again45 ([.t (tI (w64 ((vI p44 0)+1)))],[.box [.t (tI (cI p56 0 0)),AV.t
 (tI (cI p56 0 1)),.t (tI (cI p56 0 2)),.t (tI (cI p56 0 3)),.t (tI (cI p56 0 4)),.t (tI (cI p56 0 5)),.t (tI (cI p56 0 6)),.t (tI (cI p56 0 7)),.t (tI (cI p56 0 8)),.t (tI (cI
 p56 0 9)),.t (.bool (cB p56 0 10)),.t (.str (cS p56 0 11)),.t (tI (cI p56 0 12)),.t (tI (cI p56 0 13)),.t (tI (cI p56 0 14)),.t (tI (cI p56 0 15)),.t (tI (cI p56 0 16)),
 .t (tI (cI p56 0 17)),.t (tI (cI p56 0 18))],.box [.t (.str (ByteArray.extract (cS p56 1 0) (toNat (gI y55 1)) (ByteArray.size (cS p56 1 0)))),.t (.bool (cB p56 1 1))],
 .box [.t (tI (cI p56 2 0)),.t (tI (cI p56 2 1)),.t (tI (cI p56 2 2)),.t (tI (cI p56 2 3)),.t (tI (cI p56 2 4)),.t (tI (cI p56 2 5)),.t (tI (cI p56 2 6)),.t (tI (cI p56 2
 7)),.t (tI (cI p56 2 8)),.t (tI (cI p56 2 9)),.t (.bool (cB p56 2 10)),.t (.str (cS p56 2 11)),.t (tI (cI p56 2 12)),.t (tI (cI p56 2 13)),.t (tI (cI p56 2 14)),.t (tI
 (cI p56 2 15)),.t (tI (cI p56 2 16)),.t (tI (cI p56 2 17)),.t (tI (cI p56 2 18))],.box [.t (tI (cI p56 3 0)),.t (tI (cI p56 3 1)),.t (tI (cI p56 3 2)),.t (tI (cI p56 3 3)),
 .t (tI (cI p56 3 4)),.t (tI (cI p56 3 5)),.t (tI (cI p56 3 6)),.t (tI (gI y55 0)),.t (tI (cI p56 3 8)),.t (tI (cI p56 3 9)),.t (.bool (cB p56 3 10)),.t (.str (cS p56 3
 11)),.t (tI (cI p56 3 12)),.t (tI (cI p56 3 13)),.t (tI (cI p56 3 14)),.t (tI (cI p56 3 15)),.t (tI (cI p56 3 16)),.t (tI (cI p56 3 17)),.t (tI (cI p56 3 18))],.box [AV.ptr
 3 0,AV.ptr 3 18],.box [AV.ptr 3 1],.box [AV.ptr 3 2,AV.ptr 3 3,AV.ptr 3 4,AV.ptr 3 5,AV.ptr 3
 6],.box [.t (tI (cI p56 7 0))],.box [AV.ptr 3 7,AV.ptr 3 8,AV.ptr 3 9,AV.ptr 7 0]])) none)
noncomputable def Jl (n:Nat) (again43:(List AV×Heap)→Option (List Tree)) (p44:List AV×Heap) (again45:(List AV×Heap)→Option (List Tree)):Option (List Tree):=
 cnd (decide (vI p44 0<4)=true) (cnd (1=1∧(0:Int)≤vI p44 0∧vI p44 0<4) (cnd (vI p44 0=((3:Nat):Int)) (Option.bind (AB C n 83 [.str (cS p44 1 0)])
 fun y46=>cnd (length y46=3) (cnd (okI y46 0) (cnd (okI y46 1) (cnd (okI y46 2) (join (fun (p47:List AV×Heap)=>Lu n y46 again45 p44 p47) fun (again48:_→Option (List Tree))
 =>cnd (cB p44 1 1=true) (again48 ([.t (.bool true)],[.box [.t (tI (cI p44 0 0)),.t (tI (cI p44 0 1)),.t (tI (cI p44 0 2)),.t (tI (cI p44 0 3)),.t (tI (cI p44 0 4)),AV.t
 (tI (cI p44 0 5)),.t (tI (cI p44 0 6)),.t (tI (cI p44 0 7)),.t (tI (cI p44 0 8)),.t (tI (cI p44 0 9)),.t (.bool (cB p44 0 10)),.t (.str (cS p44 0 11)),.t (tI (cI p44 0
 12)),.t (tI (cI p44 0 13)),.t (tI (cI p44 0 14)),.t (tI (cI p44 0 15)),.t (tI (cI p44 0 16)),.t (tI (cI p44 0 17)),.t (tI (cI p44 0 18))],.box [.t (.str (cS p44 1 0)),
 .t (.bool (cB p44 1 1))],.box [.t (tI (cI p44 2 0)),.t (tI (cI p44 2 1)),.t (tI (cI p44 2 2)),.t (tI (cI p44 2 3)),.t (tI (cI p44 2 4)),.t (tI (cI p44 2 5)),.t (tI (cI
 p44 2 6)),.t (tI (cI p44 2 7)),.t (tI (cI p44 2 8)),.t (tI (cI p44 2 9)),.t (.bool (cB p44 2 10)),.t (.str (cS p44 2 11)),.t (tI (cI p44 2 12)),.t (tI (cI p44 2 13)),AV.t
 (tI (cI p44 2 14)),.t (tI (cI p44 2 15)),.t (tI (cI p44 2 16)),.t (tI (cI p44 2 17)),.t (tI (cI p44 2 18))],.box [.t (tI (cI p44 3 0)),.t (tI (cI p44 3 1)),.t (tI (cI p44 3
 2)),.t (tI (cI p44 3 3)),.t (tI (cI p44 3 4)),.t (tI (cI p44 3 5)),.t (tI (cI p44 3 6)),.t (tI (cI p44 3 7)),.t (tI (cI p44 3 8)),.t (tI (cI p44 3 9)),.t (.bool (cB p44 3
 10)),.t (.str (cS p44 3 11)),.t (tI (cI p44 3 12)),.t (tI (cI p44 3 13)),.t (tI (cI p44 3 14)),.t (tI (cI p44 3 15)),.t (tI (cI p44 3 16)),.t (tI (cI p44 3 17)),.t (tI (cI
 p44 3 18))],.box [AV.ptr 3 0,AV.ptr 3 18],.box [AV.ptr 3 1],.box [AV.ptr 3 2,AV.ptr 3 3,AV.ptr 3 4,AV.ptr
 3 5,AV.ptr 3 6],.box [.t (tI (cI p44 7 0))],.box [AV.ptr 3 7,AV.ptr 3 8,AV.ptr 3 9,AV.ptr 7 0]])) (again48
 ([.t (.bool ((gI y46 2) != 0))],[.box [.t (tI (cI p44 0 0)),.t (tI (cI p44 0 1)),.t (tI (cI p44 0 2)),.t (tI (cI p44 0 3)),.t (tI (cI p44 0 4)),.t (tI (cI p44 0 5)),
 .t (tI (cI p44 0 6)),.t (tI (cI p44 0 7)),.t (tI (cI p44 0 8)),.t (tI (cI p44 0 9)),.t (.bool (cB p44 0 10)),.t (.str (cS p44 0 11)),.t (tI (cI p44 0 12)),.t (tI (cI p44
 0 13)),.t (tI (cI p44 0 14)),.t (tI (cI p44 0 15)),.t (tI (cI p44 0 16)),.t (tI (cI p44 0 17)),.t (tI (cI p44 0 18))],.box [.t (.str (cS p44 1 0)),.t (.bool (cB p44 1
 1))],.box [.t (tI (cI p44 2 0)),.t (tI (cI p44 2 1)),.t (tI (cI p44 2 2)),.t (tI (cI p44 2 3)),.t (tI (cI p44 2 4)),.t (tI (cI p44 2 5)),.t (tI (cI p44 2 6)),.t (tI (cI p44
 2 7)),.t (tI (cI p44 2 8)),.t (tI (cI p44 2 9)),.t (.bool (cB p44 2 10)),.t (.str (cS p44 2 11)),.t (tI (cI p44 2 12)),.t (tI (cI p44 2 13)),.t (tI (cI p44 2 14)),AV.t
 (tI (cI p44 2 15)),.t (tI (cI p44 2 16)),.t (tI (cI p44 2 17)),.t (tI (cI p44 2 18))],.box [.t (tI (cI p44 3 0)),.t (tI (cI p44 3 1)),.t (tI (cI p44 3 2)),.t (tI (cI p44 3
 3)),.t (tI (cI p44 3 4)),.t (tI (cI p44 3 5)),.t (tI (cI p44 3 6)),.t (tI (cI p44 3 7)),.t (tI (cI p44 3 8)),.t (tI (cI p44 3 9)),.t (.bool (cB p44 3 10)),.t (.str (cS
 p44 3 11)),.t (tI (cI p44 3 12)),.t (tI (cI p44 3 13)),.t (tI (cI p44 3 14)),.t (tI (cI p44 3 15)),.t (tI (cI p44 3 16)),.t (tI (cI p44 3 17)),.t (tI (cI p44 3 18))],.box
 [AV.ptr 3 0,AV.ptr 3 18],.box [AV.ptr 3 1],.box [AV.ptr 3 2,AV.ptr 3 3,AV.ptr 3 4,AV.ptr 3 5,AV.ptr
 3 6],.box [.t (tI (cI p44 7 0))],.box [AV.ptr 3 7,AV.ptr 3 8,AV.ptr 3 9,AV.ptr 7 0]]))) none) none) none) none) (cnd (vI p44
 0=((2:Nat):Int)) (Option.bind (AB C n 83 [.str (cS p44 1 0)]) fun y49=>cnd (length y49=3) (cnd (okI y49 0) (cnd (okI y49 1) (cnd (okI y49 2) (join (fun (p50:List AV ×
 Heap)=>Lt n y49 again45 p44 p50) fun (again51:_→Option (List Tree))=>cnd (cB p44 1 1=true) (again51 ([.t (.bool true)],[.box [.t (tI (cI p44 0 0)),.t (tI (cI p44 0 1)),
 .t (tI (cI p44 0 2)),.t (tI (cI p44 0 3)),.t (tI (cI p44 0 4)),.t (tI (cI p44 0 5)),.t (tI (cI p44 0 6)),.t (tI (cI p44 0 7)),.t (tI (cI p44 0 8)),.t (tI (cI p44 0 9)),AV.t
 (Tree.bool (cB p44 0 10)),.t (.str (cS p44 0 11)),.t (tI (cI p44 0 12)),.t (tI (cI p44 0 13)),.t (tI (cI p44 0 14)),.t (tI (cI p44 0 15)),.t (tI (cI p44 0 16)),.t (tI (cI p44
 0 17)),.t (tI (cI p44 0 18))],.box [.t (.str (cS p44 1 0)),.t (.bool (cB p44 1 1))],.box [.t (tI (cI p44 2 0)),.t (tI (cI p44 2 1)),.t (tI (cI p44 2 2)),.t (tI (cI
 p44 2 3)),.t (tI (cI p44 2 4)),.t (tI (cI p44 2 5)),.t (tI (cI p44 2 6)),.t (tI (cI p44 2 7)),.t (tI (cI p44 2 8)),.t (tI (cI p44 2 9)),.t (.bool (cB p44 2 10)),AV.t
 (Tree.str (cS p44 2 11)),.t (tI (cI p44 2 12)),.t (tI (cI p44 2 13)),.t (tI (cI p44 2 14)),.t (tI (cI p44 2 15)),.t (tI (cI p44 2 16)),.t (tI (cI p44 2 17)),.t (tI (cI p44 2
 18))],.box [.t (tI (cI p44 3 0)),.t (tI (cI p44 3 1)),.t (tI (cI p44 3 2)),.t (tI (cI p44 3 3)),.t (tI (cI p44 3 4)),.t (tI (cI p44 3 5)),.t (tI (cI p44 3 6)),.t (tI (cI
 p44 3 7)),.t (tI (cI p44 3 8)),.t (tI (cI p44 3 9)),.t (.bool (cB p44 3 10)),.t (.str (cS p44 3 11)),.t (tI (cI p44 3 12)),.t (tI (cI p44 3 13)),.t (tI (cI p44 3 14)),
 .t (tI (cI p44 3 15)),.t (tI (cI p44 3 16)),.t (tI (cI p44 3 17)),.t (tI (cI p44 3 18))],.box [AV.ptr 3 0,AV.ptr 3 18],.box [AV.ptr 3 1],
 .box [AV.ptr 3 2,AV.ptr 3 3,AV.ptr 3 4,AV.ptr 3 5,AV.ptr 3 6],.box [.t (tI (cI p44 7 0))],.box [AV.ptr 3 7,
 AV.ptr 3 8,AV.ptr 3 9,AV.ptr 7 0]])) (again51 ([.t (.bool ((gI y49 2) != 0))],[.box [.t (tI (cI p44 0 0)),.t (tI (cI p44 0 1)),.t (tI (cI
 p44 0 2)),.t (tI (cI p44 0 3)),.t (tI (cI p44 0 4)),.t (tI (cI p44 0 5)),.t (tI (cI p44 0 6)),.t (tI (cI p44 0 7)),.t (tI (cI p44 0 8)),.t (tI (cI p44 0 9)),.t (.bool (cB
 p44 0 10)),.t (.str (cS p44 0 11)),.t (tI (cI p44 0 12)),.t (tI (cI p44 0 13)),.t (tI (cI p44 0 14)),.t (tI (cI p44 0 15)),.t (tI (cI p44 0 16)),.t (tI (cI p44 0 17)),AV.t
 (tI (cI p44 0 18))],.box [.t (.str (cS p44 1 0)),.t (.bool (cB p44 1 1))],.box [.t (tI (cI p44 2 0)),.t (tI (cI p44 2 1)),.t (tI (cI p44 2 2)),.t (tI (cI p44 2 3)),
 .t (tI (cI p44 2 4)),.t (tI (cI p44 2 5)),.t (tI (cI p44 2 6)),.t (tI (cI p44 2 7)),.t (tI (cI p44 2 8)),.t (tI (cI p44 2 9)),.t (.bool (cB p44 2 10)),.t (.str (cS p44 2
 11)),.t (tI (cI p44 2 12)),.t (tI (cI p44 2 13)),.t (tI (cI p44 2 14)),.t (tI (cI p44 2 15)),.t (tI (cI p44 2 16)),.t (tI (cI p44 2 17)),.t (tI (cI p44 2 18))],.box [.t (tI
 (cI p44 3 0)),.t (tI (cI p44 3 1)),.t (tI (cI p44 3 2)),.t (tI (cI p44 3 3)),.t (tI (cI p44 3 4)),.t (tI (cI p44 3 5)),.t (tI (cI p44 3 6)),.t (tI (cI p44 3 7)),.t (tI (cI p44
 3 8)),.t (tI (cI p44 3 9)),.t (.bool (cB p44 3 10)),.t (.str (cS p44 3 11)),.t (tI (cI p44 3 12)),.t (tI (cI p44 3 13)),.t (tI (cI p44 3 14)),.t (tI (cI p44 3 15)),AV.t
 (tI (cI p44 3 16)),.t (tI (cI p44 3 17)),.t (tI (cI p44 3 18))],.box [AV.ptr 3 0,AV.ptr 3 18],.box [AV.ptr 3 1],.box [AV.ptr 3 2,
 AV.ptr 3 3,AV.ptr 3 4,AV.ptr 3 5,AV.ptr 3 6],.box [.t (tI (cI p44 7 0))],.box [AV.ptr 3 7,AV.ptr 3 8,AV.ptr
 3 9,AV.ptr 7 0]]))) none) none) none) none) (cnd (vI p44 0=((1:Nat):Int)) (Option.bind (AB C n 83 [.str (cS p44 1 0)]) fun y52=>cnd (length y52 =
 3) (cnd (okI y52 0) (cnd (okI y52 1) (cnd (okI y52 2) (join (fun (p53:List AV×Heap)=>Ls n y52 again45 p44 p53) fun (again54:_→Option (List Tree))=>cnd (cB p44 1 1=true)
 (again54 ([.t (.bool true)],[.box [.t (tI (cI p44 0 0)),.t (tI (cI p44 0 1)),.t (tI (cI p44 0 2)),.t (tI (cI p44 0 3)),.t (tI (cI p44 0 4)),.t (tI (cI p44 0 5)),.t (tI
 (cI p44 0 6)),.t (tI (cI p44 0 7)),.t (tI (cI p44 0 8)),.t (tI (cI p44 0 9)),.t (.bool (cB p44 0 10)),.t (.str (cS p44 0 11)),.t (tI (cI p44 0 12)),.t (tI (cI p44 0 13)),
 .t (tI (cI p44 0 14)),.t (tI (cI p44 0 15)),.t (tI (cI p44 0 16)),.t (tI (cI p44 0 17)),.t (tI (cI p44 0 18))],.box [.t (.str (cS p44 1 0)),.t (.bool (cB p44 1 1))],
 .box [.t (tI (cI p44 2 0)),.t (tI (cI p44 2 1)),.t (tI (cI p44 2 2)),.t (tI (cI p44 2 3)),.t (tI (cI p44 2 4)),.t (tI (cI p44 2 5)),.t (tI (cI p44 2 6)),.t (tI (cI p44 2
 7)),.t (tI (cI p44 2 8)),.t (tI (cI p44 2 9)),.t (.bool (cB p44 2 10)),.t (.str (cS p44 2 11)),.t (tI (cI p44 2 12)),.t (tI (cI p44 2 13)),.t (tI (cI p44 2 14)),.t (tI
 (cI p44 2 15)),.t (tI (cI p44 2 16)),.t (tI (cI p44 2 17)),.t (tI (cI p44 2 18))],.box [.t (tI (cI p44 3 0)),.t (tI (cI p44 3 1)),.t (tI (cI p44 3 2)),.t (tI (cI p44 3 3)),
 .t (tI (cI p44 3 4)),.t (tI (cI p44 3 5)),.t (tI (cI p44 3 6)),.t (tI (cI p44 3 7)),.t (tI (cI p44 3 8)),.t (tI (cI p44 3 9)),.t (.bool (cB p44 3 10)),.t (.str (cS p44 3
 11)),.t (tI (cI p44 3 12)),.t (tI (cI p44 3 13)),.t (tI (cI p44 3 14)),.t (tI (cI p44 3 15)),.t (tI (cI p44 3 16)),.t (tI (cI p44 3 17)),.t (tI (cI p44 3 18))],.box [AV.ptr
 3 0,AV.ptr 3 18],.box [AV.ptr 3 1],.box [AV.ptr 3 2,AV.ptr 3 3,AV.ptr 3 4,AV.ptr 3 5,AV.ptr 3
 6],.box [.t (tI (cI p44 7 0))],.box [AV.ptr 3 7,AV.ptr 3 8,AV.ptr 3 9,AV.ptr 7 0]])) (again54 ([.t (.bool ((gI y52 2) !=
 (0:Int)))],[.box [.t (tI (cI p44 0 0)),.t (tI (cI p44 0 1)),.t (tI (cI p44 0 2)),.t (tI (cI p44 0 3)),.t (tI (cI p44 0 4)),.t (tI (cI p44 0 5)),.t (tI (cI p44 0 6)),.t (tI
 (cI p44 0 7)),.t (tI (cI p44 0 8)),.t (tI (cI p44 0 9)),.t (.bool (cB p44 0 10)),.t (.str (cS p44 0 11)),.t (tI (cI p44 0 12)),.t (tI (cI p44 0 13)),.t (tI (cI p44 0 14)),
 .t (tI (cI p44 0 15)),.t (tI (cI p44 0 16)),.t (tI (cI p44 0 17)),.t (tI (cI p44 0 18))],.box [.t (.str (cS p44 1 0)),.t (.bool (cB p44 1 1))],.box [.t (tI (cI p44
 2 0)),.t (tI (cI p44 2 1)),.t (tI (cI p44 2 2)),.t (tI (cI p44 2 3)),.t (tI (cI p44 2 4)),.t (tI (cI p44 2 5)),.t (tI (cI p44 2 6)),.t (tI (cI p44 2 7)),.t (tI (cI p44 2 8)),
 .t (tI (cI p44 2 9)),.t (.bool (cB p44 2 10)),.t (.str (cS p44 2 11)),.t (tI (cI p44 2 12)),.t (tI (cI p44 2 13)),.t (tI (cI p44 2 14)),.t (tI (cI p44 2 15)),.t (tI (cI
 p44 2 16)),.t (tI (cI p44 2 17)),.t (tI (cI p44 2 18))],.box [.t (tI (cI p44 3 0)),.t (tI (cI p44 3 1)),.t (tI (cI p44 3 2)),.t (tI (cI p44 3 3)),.t (tI (cI p44 3 4)),AV.t
 (tI (cI p44 3 5)),.t (tI (cI p44 3 6)),.t (tI (cI p44 3 7)),.t (tI (cI p44 3 8)),.t (tI (cI p44 3 9)),.t (.bool (cB p44 3 10)),.t (.str (cS p44 3 11)),.t (tI (cI p44 3
 12)),.t (tI (cI p44 3 13)),.t (tI (cI p44 3 14)),.t (tI (cI p44 3 15)),.t (tI (cI p44 3 16)),.t (tI (cI p44 3 17)),.t (tI (cI p44 3 18))],.box [AV.ptr 3 0,AV.ptr
 3 18],.box [AV.ptr 3 1],.box [AV.ptr 3 2,AV.ptr 3 3,AV.ptr 3 4,AV.ptr 3 5,AV.ptr 3 6],.box [AV.t
 (tI (cI p44 7 0))],.box [AV.ptr 3 7,AV.ptr 3 8,AV.ptr 3 9,AV.ptr 7 0]]))) none) none) none) none) (cnd (vI p44 0=((0:Nat):Int)) (Option.bind
 (AB C n 83 [.str (cS p44 1 0)]) fun y55=>cnd (length y55=3) (cnd (okI y55 0) (cnd (okI y55 1) (cnd (okI y55 2) (join (fun (p56:List AV×Heap)=>Lr n y55 again45 p44
 p56) fun (again57:_→Option (List Tree))=>cnd (cB p44 1 1=true) (again57 ([.t (.bool true)],[.box [.t (tI (cI p44 0 0)),.t (tI (cI p44 0 1)),.t (tI (cI p44 0 2)),.t (tI
 (cI p44 0 3)),.t (tI (cI p44 0 4)),.t (tI (cI p44 0 5)),.t (tI (cI p44 0 6)),.t (tI (cI p44 0 7)),.t (tI (cI p44 0 8)),.t (tI (cI p44 0 9)),.t (.bool (cB p44 0 10)),AV.t
 (Tree.str (cS p44 0 11)),.t (tI (cI p44 0 12)),.t (tI (cI p44 0 13)),.t (tI (cI p44 0 14)),.t (tI (cI p44 0 15)),.t (tI (cI p44 0 16)),.t (tI (cI p44 0 17)),.t (tI (cI p44 0
 18))],.box [.t (.str (cS p44 1 0)),.t (.bool (cB p44 1 1))],.box [.t (tI (cI p44 2 0)),.t (tI (cI p44 2 1)),.t (tI (cI p44 2 2)),.t (tI (cI p44 2 3)),.t (tI (cI
 p44 2 4)),.t (tI (cI p44 2 5)),.t (tI (cI p44 2 6)),.t (tI (cI p44 2 7)),.t (tI (cI p44 2 8)),.t (tI (cI p44 2 9)),.t (.bool (cB p44 2 10)),.t (.str (cS p44 2 11)),AV.t
 (tI (cI p44 2 12)),.t (tI (cI p44 2 13)),.t (tI (cI p44 2 14)),.t (tI (cI p44 2 15)),.t (tI (cI p44 2 16)),.t (tI (cI p44 2 17)),.t (tI (cI p44 2 18))],.box [.t (tI (cI p44 3
 0)),.t (tI (cI p44 3 1)),.t (tI (cI p44 3 2)),.t (tI (cI p44 3 3)),.t (tI (cI p44 3 4)),.t (tI (cI p44 3 5)),.t (tI (cI p44 3 6)),.t (tI (cI p44 3 7)),.t (tI (cI p44 3 8)),
 .t (tI (cI p44 3 9)),.t (.bool (cB p44 3 10)),.t (.str (cS p44 3 11)),.t (tI (cI p44 3 12)),.t (tI (cI p44 3 13)),.t (tI (cI p44 3 14)),.t (tI (cI p44 3 15)),.t (tI (cI
 p44 3 16)),.t (tI (cI p44 3 17)),.t (tI (cI p44 3 18))],.box [AV.ptr 3 0,AV.ptr 3 18],.box [AV.ptr 3 1],.box [AV.ptr 3 2,AV.ptr
 3 3,AV.ptr 3 4,AV.ptr 3 5,AV.ptr 3 6],.box [.t (tI (cI p44 7 0))],.box [AV.ptr 3 7,AV.ptr 3 8,AV.ptr 3
 9,AV.ptr 7 0]])) (again57 ([.t (.bool ((gI y55 2) != 0))],[.box [.t (tI (cI p44 0 0)),.t (tI (cI p44 0 1)),.t (tI (cI p44 0 2)),.t (tI (cI p44 0 3)),
 .t (tI (cI p44 0 4)),.t (tI (cI p44 0 5)),.t (tI (cI p44 0 6)),.t (tI (cI p44 0 7)),.t (tI (cI p44 0 8)),.t (tI (cI p44 0 9)),.t (.bool (cB p44 0 10)),.t (.str (cS p44 0
 11)),.t (tI (cI p44 0 12)),.t (tI (cI p44 0 13)),.t (tI (cI p44 0 14)),.t (tI (cI p44 0 15)),.t (tI (cI p44 0 16)),.t (tI (cI p44 0 17)),.t (tI (cI p44 0 18))],.box [AV.t
 (Tree.str (cS p44 1 0)),.t (.bool (cB p44 1 1))],.box [.t (tI (cI p44 2 0)),.t (tI (cI p44 2 1)),.t (tI (cI p44 2 2)),.t (tI (cI p44 2 3)),.t (tI (cI p44 2 4)),.t (tI (cI
 p44 2 5)),.t (tI (cI p44 2 6)),.t (tI (cI p44 2 7)),.t (tI (cI p44 2 8)),.t (tI (cI p44 2 9)),.t (.bool (cB p44 2 10)),.t (.str (cS p44 2 11)),.t (tI (cI p44 2 12)),AV.t
 (tI (cI p44 2 13)),.t (tI (cI p44 2 14)),.t (tI (cI p44 2 15)),.t (tI (cI p44 2 16)),.t (tI (cI p44 2 17)),.t (tI (cI p44 2 18))],.box [.t (tI (cI p44 3 0)),.t (tI (cI p44 3
 1)),.t (tI (cI p44 3 2)),.t (tI (cI p44 3 3)),.t (tI (cI p44 3 4)),.t (tI (cI p44 3 5)),.t (tI (cI p44 3 6)),.t (tI (cI p44 3 7)),.t (tI (cI p44 3 8)),.t (tI (cI p44 3 9)),
 .t (.bool (cB p44 3 10)),.t (.str (cS p44 3 11)),.t (tI (cI p44 3 12)),.t (tI (cI p44 3 13)),.t (tI (cI p44 3 14)),.t (tI (cI p44 3 15)),.t (tI (cI p44 3 16)),.t (tI (cI
 p44 3 17)),.t (tI (cI p44 3 18))],.box [AV.ptr 3 0,AV.ptr 3 18],.box [AV.ptr 3 1],.box [AV.ptr 3 2,AV.ptr 3 3,AV.ptr
 3 4,AV.ptr 3 5,AV.ptr 3 6],.box [.t (tI (cI p44 7 0))],.box [AV.ptr 3 7,AV.ptr 3 8,AV.ptr 3 9,AV.ptr 7
 0]]))) none) none) none) none) none)))) none) (again43 ([],[.box [.t (tI (cI p44 0 0)),.t (tI (cI p44 0 1)),.t (tI (cI p44 0 2)),.t (tI (cI p44 0 3)),.t (tI (cI p44 0 4)),
 .t (tI (cI p44 0 5)),.t (tI (cI p44 0 6)),.t (tI (cI p44 0 7)),.t (tI (cI p44 0 8)),.t (tI (cI p44 0 9)),.t (.bool (cB p44 0 10)),.t (.str (cS p44 0 11)),.t (tI (cI p44
 0 12)),.t (tI (cI p44 0 13)),.t (tI (cI p44 0 14)),.t (tI (cI p44 0 15)),.t (tI (cI p44 0 16)),.t (tI (cI p44 0 17)),.t (tI (cI p44 0 18))],.box [.t (.str (cS p44 1 0)),
 .t (.bool (cB p44 1 1))],.box [.t (tI (cI p44 2 0)),.t (tI (cI p44 2 1)),.t (tI (cI p44 2 2)),.t (tI (cI p44 2 3)),.t (tI (cI p44 2 4)),.t (tI (cI p44 2 5)),.t (tI (cI
 p44 2 6)),.t (tI (cI p44 2 7)),.t (tI (cI p44 2 8)),.t (tI (cI p44 2 9)),.t (.bool (cB p44 2 10)),.t (.str (cS p44 2 11)),.t (tI (cI p44 2 12)),.t (tI (cI p44 2 13)),AV.t
 (tI (cI p44 2 14)),.t (tI (cI p44 2 15)),.t (tI (cI p44 2 16)),.t (tI (cI p44 2 17)),.t (tI (cI p44 2 18))],.box [.t (tI (cI p44 3 0)),.t (tI (cI p44 3 1)),.t (tI (cI p44 3
 2)),.t (tI (cI p44 3 3)),.t (tI (cI p44 3 4)),.t (tI (cI p44 3 5)),.t (tI (cI p44 3 6)),.t (tI (cI p44 3 7)),.t (tI (cI p44 3 8)),.t (tI (cI p44 3 9)),.t (.bool (cB p44 3
 10)),.t (.str (cS p44 3 11)),.t (tI (cI p44 3 12)),.t (tI (cI p44 3 13)),.t (tI (cI p44 3 14)),.t (tI (cI p44 3 15)),.t (tI (cI p44 3 16)),.t (tI (cI p44 3 17)),.t (tI (cI
 p44 3 18))],.box [AV.ptr 3 0,AV.ptr 3 18],.box [AV.ptr 3 1],.box [AV.ptr 3 2,AV.ptr 3 3,AV.ptr 3 4,AV.ptr
 3 5,AV.ptr 3 6],.box [.t (tI (cI p44 7 0))],.box [AV.ptr 3 7,AV.ptr 3 8,AV.ptr 3 9,AV.ptr 7 0]]))
noncomputable def VN (n:Nat) (y58:List Tree) (again3:(List AV×Heap)→Option (List Tree)) (p59:List AV×Heap):Option (List Tree):=
 cnd (vB p59 0=true) none (cnd ((0:Int)≤gI y58 1∧gI y58 1≤((ByteArray.size (cS p59 1 0):Nat):Int)) (again3 ([.t (tI (cI p59 3 0)),.t (tI (cI p59 3 1)),.t (tI (cI p59 3 2)),.t (tI (cI
 p59 3 3)),.t (tI (cI p59 3 4)),.t (tI (cI p59 3 5)),.t (tI (cI p59 3 6)),.t (tI (cI p59 3 7)),.t (tI (cI p59 3 8)),.t (tI (cI p59 3 9)),.t (.bool ((cI p59 7 0)==1)),
 .t (.str (gS y58 0)),.t (tI (cI p59 3 12)),.t (tI (cI p59 3 13)),.t (tI (cI p59 3 14)),.t (tI (cI p59 3 15)),.t (tI (cI p59 3 16)),.t (tI (cI p59 3 17)),.t (tI (cI p59 3
 18))],[.box [.t (tI (cI p59 0 0)),.t (tI (cI p59 0 1)),.t (tI (cI p59 0 2)),.t (tI (cI p59 0 3)),.t (tI (cI p59 0 4)),.t (tI (cI p59 0 5)),.t (tI (cI p59 0 6)),.t (tI (cI
 p59 0 7)),.t (tI (cI p59 0 8)),.t (tI (cI p59 0 9)),.t (.bool (cB p59 0 10)),.t (.str (cS p59 0 11)),.t (tI (cI p59 0 12)),.t (tI (cI p59 0 13)),.t (tI (cI p59 0 14)),
 .t (tI (cI p59 0 15)),.t (tI (cI p59 0 16)),.t (tI (cI p59 0 17)),.t (tI (cI p59 0 18))],.box [.t (.str (ByteArray.extract (cS p59 1 0) (toNat (gI y58 1)) (ByteArray.size (cS
 p59 1 0)))),.t (.bool (cB p59 1 1))]])) none)
noncomputable def VM (n:Nat) (again3:(List AV×Heap)→Option (List Tree)) (p42:List AV×Heap):Option (List Tree):=
 Option.bind (AB C n 84 [.str (cS p42 1 0)]) fun y58=>cnd (length y58=3) (cnd (okS y58 0) (cnd (okI y58 1) (cnd (okI y58 2) (join (fun (p59:List AV×Heap)=>VN n y58
 again3 p59) fun (again60:_→Option (List Tree))=>cnd (cB p42 1 1=true) (again60 ([.t (.bool true)],[.box [.t (tI (cI p42 0 0)),.t (tI (cI p42 0 1)),.t (tI (cI p42 0 2)),AV.t
 (tI (cI p42 0 3)),.t (tI (cI p42 0 4)),.t (tI (cI p42 0 5)),.t (tI (cI p42 0 6)),.t (tI (cI p42 0 7)),.t (tI (cI p42 0 8)),.t (tI (cI p42 0 9)),.t (.bool (cB p42 0 10)),AV.t
 (Tree.str (cS p42 0 11)),.t (tI (cI p42 0 12)),.t (tI (cI p42 0 13)),.t (tI (cI p42 0 14)),.t (tI (cI p42 0 15)),.t (tI (cI p42 0 16)),.t (tI (cI p42 0 17)),.t (tI (cI p42 0
 18))],.box [.t (.str (cS p42 1 0)),.t (.bool (cB p42 1 1))],.box [.t (tI (cI p42 2 0)),.t (tI (cI p42 2 1)),.t (tI (cI p42 2 2)),.t (tI (cI p42 2 3)),.t (tI (cI
 p42 2 4)),.t (tI (cI p42 2 5)),.t (tI (cI p42 2 6)),.t (tI (cI p42 2 7)),.t (tI (cI p42 2 8)),.t (tI (cI p42 2 9)),.t (.bool (cB p42 2 10)),.t (.str (cS p42 2 11)),AV.t
 (tI (cI p42 2 12)),.t (tI (cI p42 2 13)),.t (tI (cI p42 2 14)),.t (tI (cI p42 2 15)),.t (tI (cI p42 2 16)),.t (tI (cI p42 2 17)),.t (tI (cI p42 2 18))],.box [.t (tI (cI p42 3
 0)),.t (tI (cI p42 3 1)),.t (tI (cI p42 3 2)),.t (tI (cI p42 3 3)),.t (tI (cI p42 3 4)),.t (tI (cI p42 3 5)),.t (tI (cI p42 3 6)),.t (tI (cI p42 3 7)),.t (tI (cI p42 3 8)),
 .t (tI (cI p42 3 9)),.t (.bool (cB p42 3 10)),.t (.str (cS p42 3 11)),.t (tI (cI p42 3 12)),.t (tI (cI p42 3 13)),.t (tI (cI p42 3 14)),.t (tI (cI p42 3 15)),.t (tI (cI
 p42 3 16)),.t (tI (cI p42 3 17)),.t (tI (cI p42 3 18))],.box [AV.ptr 3 0,AV.ptr 3 18],.box [AV.ptr 3 1],.box [AV.ptr 3 2,AV.ptr
 3 3,AV.ptr 3 4,AV.ptr 3 5,AV.ptr 3 6],.box [.t (tI (cI p42 7 0))],.box [AV.ptr 3 7,AV.ptr 3 8,AV.ptr 3
 9,AV.ptr 7 0]])) (cnd (((gI y58 2) != 0)=true) (again60 ([.t (.bool true)],[.box [.t (tI (cI p42 0 0)),.t (tI (cI p42 0 1)),.t (tI (cI p42 0 2)),.t (tI
 (cI p42 0 3)),.t (tI (cI p42 0 4)),.t (tI (cI p42 0 5)),.t (tI (cI p42 0 6)),.t (tI (cI p42 0 7)),.t (tI (cI p42 0 8)),.t (tI (cI p42 0 9)),.t (.bool (cB p42 0 10)),AV.t
 (Tree.str (cS p42 0 11)),.t (tI (cI p42 0 12)),.t (tI (cI p42 0 13)),.t (tI (cI p42 0 14)),.t (tI (cI p42 0 15)),.t (tI (cI p42 0 16)),.t (tI (cI p42 0 17)),.t (tI (cI p42 0
 18))],.box [.t (.str (cS p42 1 0)),.t (.bool (cB p42 1 1))],.box [.t (tI (cI p42 2 0)),.t (tI (cI p42 2 1)),.t (tI (cI p42 2 2)),.t (tI (cI p42 2 3)),.t (tI (cI
 p42 2 4)),.t (tI (cI p42 2 5)),.t (tI (cI p42 2 6)),.t (tI (cI p42 2 7)),.t (tI (cI p42 2 8)),.t (tI (cI p42 2 9)),.t (.bool (cB p42 2 10)),.t (.str (cS p42 2 11)),AV.t
 (tI (cI p42 2 12)),.t (tI (cI p42 2 13)),.t (tI (cI p42 2 14)),.t (tI (cI p42 2 15)),.t (tI (cI p42 2 16)),.t (tI (cI p42 2 17)),.t (tI (cI p42 2 18))],.box [.t (tI (cI p42 3
 0)),.t (tI (cI p42 3 1)),.t (tI (cI p42 3 2)),.t (tI (cI p42 3 3)),.t (tI (cI p42 3 4)),.t (tI (cI p42 3 5)),.t (tI (cI p42 3 6)),.t (tI (cI p42 3 7)),.t (tI (cI p42 3 8)),
 .t (tI (cI p42 3 9)),.t (.bool (cB p42 3 10)),.t (.str (cS p42 3 11)),.t (tI (cI p42 3 12)),.t (tI (cI p42 3 13)),.t (tI (cI p42 3 14)),.t (tI (cI p42 3 15)),.t (tI (cI
 p42 3 16)),.t (tI (cI p42 3 17)),.t (tI (cI p42 3 18))],.box [AV.ptr 3 0,AV.ptr 3 18],.box [AV.ptr 3 1],.box [AV.ptr 3 2,AV.ptr
 3 3,AV.ptr 3 4,AV.ptr 3 5,AV.ptr 3 6],.box [.t (tI (cI p42 7 0))],.box [AV.ptr 3 7,AV.ptr 3 8,AV.ptr 3
 9,AV.ptr 7 0]])) (cnd (decide (cI p42 7 0<0)=true) (again60 ([.t (.bool true)],[.box [.t (tI (cI p42 0 0)),.t (tI (cI p42 0 1)),.t (tI (cI p42 0 2)),
 .t (tI (cI p42 0 3)),.t (tI (cI p42 0 4)),.t (tI (cI p42 0 5)),.t (tI (cI p42 0 6)),.t (tI (cI p42 0 7)),.t (tI (cI p42 0 8)),.t (tI (cI p42 0 9)),.t (.bool (cB p42 0 10)),
 .t (.str (cS p42 0 11)),.t (tI (cI p42 0 12)),.t (tI (cI p42 0 13)),.t (tI (cI p42 0 14)),.t (tI (cI p42 0 15)),.t (tI (cI p42 0 16)),.t (tI (cI p42 0 17)),.t (tI (cI p42 0
 18))],.box [.t (.str (cS p42 1 0)),.t (.bool (cB p42 1 1))],.box [.t (tI (cI p42 2 0)),.t (tI (cI p42 2 1)),.t (tI (cI p42 2 2)),.t (tI (cI p42 2 3)),.t (tI (cI
 p42 2 4)),.t (tI (cI p42 2 5)),.t (tI (cI p42 2 6)),.t (tI (cI p42 2 7)),.t (tI (cI p42 2 8)),.t (tI (cI p42 2 9)),.t (.bool (cB p42 2 10)),.t (.str (cS p42 2 11)),AV.t
 (tI (cI p42 2 12)),.t (tI (cI p42 2 13)),.t (tI (cI p42 2 14)),.t (tI (cI p42 2 15)),.t (tI (cI p42 2 16)),.t (tI (cI p42 2 17)),.t (tI (cI p42 2 18))],.box [.t (tI (cI p42 3
 0)),.t (tI (cI p42 3 1)),.t (tI (cI p42 3 2)),.t (tI (cI p42 3 3)),.t (tI (cI p42 3 4)),.t (tI (cI p42 3 5)),.t (tI (cI p42 3 6)),.t (tI (cI p42 3 7)),.t (tI (cI p42 3 8)),
 .t (tI (cI p42 3 9)),.t (.bool (cB p42 3 10)),.t (.str (cS p42 3 11)),.t (tI (cI p42 3 12)),.t (tI (cI p42 3 13)),.t (tI (cI p42 3 14)),.t (tI (cI p42 3 15)),.t (tI (cI
 p42 3 16)),.t (tI (cI p42 3 17)),.t (tI (cI p42 3 18))],.box [AV.ptr 3 0,AV.ptr 3 18],.box [AV.ptr 3 1],.box [AV.ptr 3 2,AV.ptr
 3 3,AV.ptr 3 4,AV.ptr 3 5,AV.ptr 3 6],.box [.t (tI (cI p42 7 0))],.box [AV.ptr 3 7,AV.ptr 3 8,AV.ptr 3
 9,AV.ptr 7 0]])) (again60 ([.t (.bool (decide (cI p42 7 0>1)))],[.box [.t (tI (cI p42 0 0)),.t (tI (cI p42 0 1)),.t (tI (cI p42 0 2)),.t (tI (cI p42 0
 3)),.t (tI (cI p42 0 4)),.t (tI (cI p42 0 5)),.t (tI (cI p42 0 6)),.t (tI (cI p42 0 7)),.t (tI (cI p42 0 8)),.t (tI (cI p42 0 9)),.t (.bool (cB p42 0 10)),.t (.str (cS
 p42 0 11)),.t (tI (cI p42 0 12)),.t (tI (cI p42 0 13)),.t (tI (cI p42 0 14)),.t (tI (cI p42 0 15)),.t (tI (cI p42 0 16)),.t (tI (cI p42 0 17)),.t (tI (cI p42 0 18))],.box
 [.t (.str (cS p42 1 0)),.t (.bool (cB p42 1 1))],.box [.t (tI (cI p42 2 0)),.t (tI (cI p42 2 1)),.t (tI (cI p42 2 2)),.t (tI (cI p42 2 3)),.t (tI (cI p42 2 4)),AV.t
 (tI (cI p42 2 5)),.t (tI (cI p42 2 6)),.t (tI (cI p42 2 7)),.t (tI (cI p42 2 8)),.t (tI (cI p42 2 9)),.t (.bool (cB p42 2 10)),.t (.str (cS p42 2 11)),.t (tI (cI p42 2
 12)),.t (tI (cI p42 2 13)),.t (tI (cI p42 2 14)),.t (tI (cI p42 2 15)),.t (tI (cI p42 2 16)),.t (tI (cI p42 2 17)),.t (tI (cI p42 2 18))],.box [.t (tI (cI p42 3 0)),.t (tI
 (cI p42 3 1)),.t (tI (cI p42 3 2)),.t (tI (cI p42 3 3)),.t (tI (cI p42 3 4)),.t (tI (cI p42 3 5)),.t (tI (cI p42 3 6)),.t (tI (cI p42 3 7)),.t (tI (cI p42 3 8)),.t (tI (cI p42
 3 9)),.t (.bool (cB p42 3 10)),.t (.str (cS p42 3 11)),.t (tI (cI p42 3 12)),.t (tI (cI p42 3 13)),.t (tI (cI p42 3 14)),.t (tI (cI p42 3 15)),.t (tI (cI p42 3 16)),AV.t
 (tI (cI p42 3 17)),.t (tI (cI p42 3 18))],.box [AV.ptr 3 0,AV.ptr 3 18],.box [AV.ptr 3 1],.box [AV.ptr 3 2,AV.ptr 3 3,
 AV.ptr 3 4,AV.ptr 3 5,AV.ptr 3 6],.box [.t (tI (cI p42 7 0))],.box [AV.ptr 3 7,AV.ptr 3 8,AV.ptr 3 9,AV.ptr
 7 0]]))))) none) none) none) none
noncomputable def VL (n:Nat) (p14:List AV×Heap) (again3:(List AV×Heap)→Option (List Tree)) (p23:List AV×Heap):Option (List Tree):=
 cnd (((cI p23 3 0)==4)=true) none (cnd (vB p14 0=true) (join (fun (p42:List AV×Heap)=>VM n again3 p42) fun (again43:_→Option (List Tree))=>AH (fun (p44:List AV ×
 Heap) (again45:_→Option (List Tree))=>Jl n again43 p44 again45) n ([.t (tI 0)],[.box [.t (tI (cI p23 0 0)),.t (tI (cI p23 0 1)),.t (tI (cI p23 0 2)),.t (tI (cI p23 0
 3)),.t (tI (cI p23 0 4)),.t (tI (cI p23 0 5)),.t (tI (cI p23 0 6)),.t (tI (cI p23 0 7)),.t (tI (cI p23 0 8)),.t (tI (cI p23 0 9)),.t (.bool (cB p23 0 10)),.t (.str (cS
 p23 0 11)),.t (tI (cI p23 0 12)),.t (tI (cI p23 0 13)),.t (tI (cI p23 0 14)),.t (tI (cI p23 0 15)),.t (tI (cI p23 0 16)),.t (tI (cI p23 0 17)),.t (tI (cI p23 0 18))],.box
 [.t (.str (cS p23 1 0)),.t (.bool (cB p23 1 1))],.box [.t (tI (cI p23 2 0)),.t (tI (cI p23 2 1)),.t (tI (cI p23 2 2)),.t (tI (cI p23 2 3)),.t (tI (cI p23 2 4)),AV.t
 (tI (cI p23 2 5)),.t (tI (cI p23 2 6)),.t (tI (cI p23 2 7)),.t (tI (cI p23 2 8)),.t (tI (cI p23 2 9)),.t (.bool (cB p23 2 10)),.t (.str (cS p23 2 11)),.t (tI (cI p23 2
 12)),.t (tI (cI p23 2 13)),.t (tI (cI p23 2 14)),.t (tI (cI p23 2 15)),.t (tI (cI p23 2 16)),.t (tI (cI p23 2 17)),.t (tI (cI p23 2 18))],.box [.t (tI (cI p23 3 0)),.t (tI
 (cI p23 3 1)),.t (tI (cI p23 3 2)),.t (tI (cI p23 3 3)),.t (tI (cI p23 3 4)),.t (tI (cI p23 3 5)),.t (tI (cI p23 3 6)),.t (tI (cI p23 3 7)),.t (tI (cI p23 3 8)),.t (tI (cI p23
 3 9)),.t (.bool (cB p23 3 10)),.t (.str (cS p23 3 11)),.t (tI (cI p23 3 12)),.t (tI (cI p23 3 13)),.t (tI (cI p23 3 14)),.t (tI (cI p23 3 15)),.t (tI (cI p23 3 16)),AV.t
 (tI (cI p23 3 17)),.t (tI (cI p23 3 18))],.box [AV.ptr 3 0,AV.ptr 3 18],.box [AV.ptr 3 1],.box [AV.ptr 3 2,AV.ptr 3 3,
 AV.ptr 3 4,AV.ptr 3 5,AV.ptr 3 6],.box [.t (tI 0)],.box [AV.ptr 3 7,AV.ptr 3 8,AV.ptr 3 9,AV.ptr 7
 0]])) none)
noncomputable def VJ (n:Nat) (p14:List AV×Heap) (again3:(List AV×Heap)→Option (List Tree)) (p16:List AV×Heap):Option (List Tree):=
 join (fun (p23:List AV×Heap)=>VL n p14 again3 p23) fun (again24:_→Option (List Tree))=>AH (fun (p25:List AV×Heap) (again26:_→Option (List Tree))=>H9 n again24 p25
 again26) n ([.t (tI 0)],[.box [.t (tI (cI p16 0 0)),.t (tI (cI p16 0 1)),.t (tI (cI p16 0 2)),.t (tI (cI p16 0 3)),.t (tI (cI p16 0 4)),.t (tI (cI p16 0 5)),.t (tI (cI
 p16 0 6)),.t (tI (cI p16 0 7)),.t (tI (cI p16 0 8)),.t (tI (cI p16 0 9)),.t (.bool (cB p16 0 10)),.t (.str (cS p16 0 11)),.t (tI (cI p16 0 12)),.t (tI (cI p16 0 13)),AV.t
 (tI (cI p16 0 14)),.t (tI (cI p16 0 15)),.t (tI (cI p16 0 16)),.t (tI (cI p16 0 17)),.t (tI (cI p16 0 18))],.box [.t (.str (cS p16 1 0)),.t (.bool (cB p16 1 1))],
 .box [.t (tI (cI p16 2 0)),.t (tI (cI p16 2 1)),.t (tI (cI p16 2 2)),.t (tI (cI p16 2 3)),.t (tI (cI p16 2 4)),.t (tI (cI p16 2 5)),.t (tI (cI p16 2 6)),.t (tI (cI p16 2
 7)),.t (tI (cI p16 2 8)),.t (tI (cI p16 2 9)),.t (.bool (cB p16 2 10)),.t (.str (cS p16 2 11)),.t (tI (cI p16 2 12)),.t (tI (cI p16 2 13)),.t (tI (cI p16 2 14)),.t (tI
 (cI p16 2 15)),.t (tI (cI p16 2 16)),.t (tI (cI p16 2 17)),.t (tI (cI p16 2 18))],.box [.t (tI (cI p16 3 0)),.t (tI (cI p16 3 1)),.t (tI (cI p16 3 2)),.t (tI (cI p16 3 3)),
 .t (tI (cI p16 3 4)),.t (tI (cI p16 3 5)),.t (tI (cI p16 3 6)),.t (tI (cI p16 3 7)),.t (tI (cI p16 3 8)),.t (tI (cI p16 3 9)),.t (.bool (cB p16 3 10)),.t (.str (cS p16 3
 11)),.t (tI (cI p16 3 12)),.t (tI (cI p16 3 13)),.t (tI (cI p16 3 14)),.t (tI (cI p16 3 15)),.t (tI (cI p16 3 16)),.t (tI (cI p16 3 17)),.t (tI (cI p16 3 18))],.box [AV.ptr
 3 0,AV.ptr 3 18],.box [AV.ptr 3 1],.box [AV.ptr 3 2,AV.ptr 3 3,AV.ptr 3 4,AV.ptr 3 5,AV.ptr 3
 6]])
noncomputable def VI (n:Nat) (again3:(List AV×Heap)→Option (List Tree)) (p14:List AV×Heap):Option (List Tree):=
 cnd (vB p14 0=true) (join (fun (p16:List AV×Heap)=>VJ n p14 again3 p16) fun (again17:_→Option (List Tree))=>AH (fun (p18:List AV×Heap) (again19:_→Option (List Tree))=>
 U2 n again17 p18 again19) n ([.t (tI 0)],[.box [.t (tI (cI p14 0 0)),.t (tI (cI p14 0 1)),.t (tI (cI p14 0 2)),.t (tI (cI p14 0 3)),.t (tI (cI p14 0 4)),.t (tI (cI p14
 0 5)),.t (tI (cI p14 0 6)),.t (tI (cI p14 0 7)),.t (tI (cI p14 0 8)),.t (tI (cI p14 0 9)),.t (.bool (cB p14 0 10)),.t (.str (cS p14 0 11)),.t (tI (cI p14 0 12)),.t (tI
 (cI p14 0 13)),.t (tI (cI p14 0 14)),.t (tI (cI p14 0 15)),.t (tI (cI p14 0 16)),.t (tI (cI p14 0 17)),.t (tI (cI p14 0 18))],.box [.t (.str (cS p14 1 0)),.t (.bool
 (cB p14 1 1))],.box [.t (tI (cI p14 2 0)),.t (tI (cI p14 2 1)),.t (tI (cI p14 2 2)),.t (tI (cI p14 2 3)),.t (tI (cI p14 2 4)),.t (tI (cI p14 2 5)),.t (tI (cI p14 2 6)),AV.t
 (tI (cI p14 2 7)),.t (tI (cI p14 2 8)),.t (tI (cI p14 2 9)),.t (.bool (cB p14 2 10)),.t (.str (cS p14 2 11)),.t (tI (cI p14 2 12)),.t (tI (cI p14 2 13)),.t (tI (cI p14 2
 14)),.t (tI (cI p14 2 15)),.t (tI (cI p14 2 16)),.t (tI (cI p14 2 17)),.t (tI (cI p14 2 18))],.box [.t (tI (cI p14 3 0)),.t (tI (cI p14 3 1)),.t (tI (cI p14 3 2)),.t (tI
 (cI p14 3 3)),.t (tI (cI p14 3 4)),.t (tI (cI p14 3 5)),.t (tI (cI p14 3 6)),.t (tI (cI p14 3 7)),.t (tI (cI p14 3 8)),.t (tI (cI p14 3 9)),.t (.bool (cB p14 3 10)),AV.t
 (Tree.str (cS p14 3 11)),.t (tI (cI p14 3 12)),.t (tI (cI p14 3 13)),.t (tI (cI p14 3 14)),.t (tI (cI p14 3 15)),.t (tI (cI p14 3 16)),.t (tI (cI p14 3 17)),.t (tI (cI p14 3
 18))],.box [AV.ptr 3 0,AV.ptr 3 18],.box [AV.ptr 3 1]])) none
noncomputable def VH (n:Nat) (again3:(List AV×Heap)→Option (List Tree)) (p4:List AV×Heap):Option (List Tree):=
 join (fun (p14:List AV×Heap)=>VI n again3 p14) fun (again15:_→Option (List Tree))=>cnd (((cI p4 3 0)==1)=true) (again15 ([.t (.bool true)],[.box [.t (tI (cI p4 0
 0)),.t (tI (cI p4 0 1)),.t (tI (cI p4 0 2)),.t (tI (cI p4 0 3)),.t (tI (cI p4 0 4)),.t (tI (cI p4 0 5)),.t (tI (cI p4 0 6)),.t (tI (cI p4 0 7)),.t (tI (cI p4 0 8)),.t (tI
 (cI p4 0 9)),.t (.bool (cB p4 0 10)),.t (.str (cS p4 0 11)),.t (tI (cI p4 0 12)),.t (tI (cI p4 0 13)),.t (tI (cI p4 0 14)),.t (tI (cI p4 0 15)),.t (tI (cI p4 0 16)),AV.t
 (tI (cI p4 0 17)),.t (tI (cI p4 0 18))],.box [.t (.str (cS p4 1 0)),.t (.bool (cB p4 1 1))],.box [.t (tI (cI p4 2 0)),.t (tI (cI p4 2 1)),.t (tI (cI p4 2 2)),AV.t
 (tI (cI p4 2 3)),.t (tI (cI p4 2 4)),.t (tI (cI p4 2 5)),.t (tI (cI p4 2 6)),.t (tI (cI p4 2 7)),.t (tI (cI p4 2 8)),.t (tI (cI p4 2 9)),.t (.bool (cB p4 2 10)),AV.t
 (Tree.str (cS p4 2 11)),.t (tI (cI p4 2 12)),.t (tI (cI p4 2 13)),.t (tI (cI p4 2 14)),.t (tI (cI p4 2 15)),.t (tI (cI p4 2 16)),.t (tI (cI p4 2 17)),.t (tI (cI p4 2 18))],
 .box [.t (tI (cI p4 3 0)),.t (tI (cI p4 3 1)),.t (tI (cI p4 3 2)),.t (tI (cI p4 3 3)),.t (tI (cI p4 3 4)),.t (tI (cI p4 3 5)),.t (tI (cI p4 3 6)),.t (tI (cI p4 3 7)),AV.t
 (tI (cI p4 3 8)),.t (tI (cI p4 3 9)),.t (.bool (cB p4 3 10)),.t (.str (cS p4 3 11)),.t (tI (cI p4 3 12)),.t (tI (cI p4 3 13)),.t (tI (cI p4 3 14)),.t (tI (cI p4 3 15)),
 .t (tI (cI p4 3 16)),.t (tI (cI p4 3 17)),.t (tI (cI p4 3 18))],.box [AV.ptr 3 0,AV.ptr 3 18]])) (again15 ([.t (.bool ((cI p4 3 0)==3))],[.box
 [.t (tI (cI p4 0 0)),.t (tI (cI p4 0 1)),.t (tI (cI p4 0 2)),.t (tI (cI p4 0 3)),.t (tI (cI p4 0 4)),.t (tI (cI p4 0 5)),.t (tI (cI p4 0 6)),.t (tI (cI p4 0 7)),.t (tI (cI p4
 0 8)),.t (tI (cI p4 0 9)),.t (.bool (cB p4 0 10)),.t (.str (cS p4 0 11)),.t (tI (cI p4 0 12)),.t (tI (cI p4 0 13)),.t (tI (cI p4 0 14)),.t (tI (cI p4 0 15)),.t (tI (cI
 p4 0 16)),.t (tI (cI p4 0 17)),.t (tI (cI p4 0 18))],.box [.t (.str (cS p4 1 0)),.t (.bool (cB p4 1 1))],.box [.t (tI (cI p4 2 0)),.t (tI (cI p4 2 1)),.t (tI (cI
 p4 2 2)),.t (tI (cI p4 2 3)),.t (tI (cI p4 2 4)),.t (tI (cI p4 2 5)),.t (tI (cI p4 2 6)),.t (tI (cI p4 2 7)),.t (tI (cI p4 2 8)),.t (tI (cI p4 2 9)),.t (.bool (cB p4 2
 10)),.t (.str (cS p4 2 11)),.t (tI (cI p4 2 12)),.t (tI (cI p4 2 13)),.t (tI (cI p4 2 14)),.t (tI (cI p4 2 15)),.t (tI (cI p4 2 16)),.t (tI (cI p4 2 17)),.t (tI (cI p4 2
 18))],.box [.t (tI (cI p4 3 0)),.t (tI (cI p4 3 1)),.t (tI (cI p4 3 2)),.t (tI (cI p4 3 3)),.t (tI (cI p4 3 4)),.t (tI (cI p4 3 5)),.t (tI (cI p4 3 6)),.t (tI (cI p4 3 7)),
 .t (tI (cI p4 3 8)),.t (tI (cI p4 3 9)),.t (.bool (cB p4 3 10)),.t (.str (cS p4 3 11)),.t (tI (cI p4 3 12)),.t (tI (cI p4 3 13)),.t (tI (cI p4 3 14)),.t (tI (cI p4 3
 15)),.t (tI (cI p4 3 16)),.t (tI (cI p4 3 17)),.t (tI (cI p4 3 18))],.box [AV.ptr 3 0,AV.ptr 3 18]]))
noncomputable def VG (n:Nat) (y1:List Tree) (p61:List AV×Heap):Option (List Tree):=
 cnd (vB p61 0=true) none (some [tI (cI p61 2 0),tI (cI p61 2 1),tI (cI p61 2 2),tI (cI p61 2 3),tI (cI p61 2 4),tI (cI p61 2 5),tI (cI p61 2 6),tI (cI p61 2 7),tI (cI p61 2 8),tI (cI p61 2
 9),.bool (cB p61 2 10),.str (cS p61 2 11),tI (cI p61 2 12),tI (cI p61 2 13),tI (cI p61 2 14),tI (cI p61 2 15),tI (cI p61 2 16),tI (cI p61 2 17),tI (cI p61 2 18),tI (gI y1 1),
 Tree.bool true])
noncomputable def VF (n:Nat) (y1:List Tree) (p2:List AV×Heap):Option (List Tree):=
 join (fun (p61:List AV×Heap)=>VG n y1 p61) fun (again62:_→Option (List Tree))=>cnd (cB p2 1 1=true) (again62 ([.t (.bool true)],[.box [.t (tI (cI p2 0 0)),.t (tI (cI
 p2 0 1)),.t (tI (cI p2 0 2)),.t (tI (cI p2 0 3)),.t (tI (cI p2 0 4)),.t (tI (cI p2 0 5)),.t (tI (cI p2 0 6)),.t (tI (cI p2 0 7)),.t (tI (cI p2 0 8)),.t (tI (cI p2 0 9)),AV.t
 (Tree.bool (cB p2 0 10)),.t (.str (cS p2 0 11)),.t (tI (cI p2 0 12)),.t (tI (cI p2 0 13)),.t (tI (cI p2 0 14)),.t (tI (cI p2 0 15)),.t (tI (cI p2 0 16)),.t (tI (cI p2 0 17)),
 .t (tI (cI p2 0 18))],.box [.t (.str (cS p2 1 0)),.t (.bool (cB p2 1 1))],.box [.t (tI (vI p2 0)),.t (tI (vI p2 1)),.t (tI (vI p2 2)),.t (tI (vI p2 3)),.t (tI
 (vI p2 4)),.t (tI (vI p2 5)),.t (tI (vI p2 6)),.t (tI (vI p2 7)),.t (tI (vI p2 8)),.t (tI (vI p2 9)),.t (.bool (vB p2 10)),.t (.str (vS p2 11)),.t (tI (vI p2 12)),AV.t
 (tI (vI p2 13)),.t (tI (vI p2 14)),.t (tI (vI p2 15)),.t (tI (vI p2 16)),.t (tI (vI p2 17)),.t (tI (vI p2 18))]])) (cnd (((cS p2 1 0) != (ByteArray.mk #[]))=true) (again62 ([AV.t
 (Tree.bool true)],[.box [.t (tI (cI p2 0 0)),.t (tI (cI p2 0 1)),.t (tI (cI p2 0 2)),.t (tI (cI p2 0 3)),.t (tI (cI p2 0 4)),.t (tI (cI p2 0 5)),.t (tI (cI p2 0 6)),.t (tI
 (cI p2 0 7)),.t (tI (cI p2 0 8)),.t (tI (cI p2 0 9)),.t (.bool (cB p2 0 10)),.t (.str (cS p2 0 11)),.t (tI (cI p2 0 12)),.t (tI (cI p2 0 13)),.t (tI (cI p2 0 14)),AV.t
 (tI (cI p2 0 15)),.t (tI (cI p2 0 16)),.t (tI (cI p2 0 17)),.t (tI (cI p2 0 18))],.box [.t (.str (cS p2 1 0)),.t (.bool (cB p2 1 1))],.box [.t (tI (vI p2 0)),AV.t
 (tI (vI p2 1)),.t (tI (vI p2 2)),.t (tI (vI p2 3)),.t (tI (vI p2 4)),.t (tI (vI p2 5)),.t (tI (vI p2 6)),.t (tI (vI p2 7)),.t (tI (vI p2 8)),.t (tI (vI p2 9)),.t (.bool
 (vB p2 10)),.t (.str (vS p2 11)),.t (tI (vI p2 12)),.t (tI (vI p2 13)),.t (tI (vI p2 14)),.t (tI (vI p2 15)),.t (tI (vI p2 16)),.t (tI (vI p2 17)),.t (tI (vI p2 18))]]))
 (Option.bind (AB C n 60 [tI (vI p2 0),tI (vI p2 1),tI (vI p2 2),tI (vI p2 3),tI (vI p2 4),tI (vI p2 5),tI (vI p2 6),tI (vI p2 7),tI (vI p2 8),tI (vI p2 9),.bool (vB p2 10),
 Tree.str (vS p2 11),tI (vI p2 12),tI (vI p2 13),tI (vI p2 14),tI (vI p2 15),tI (vI p2 16),tI (vI p2 17),tI (vI p2 18)]) fun y63=>cnd (length y63=1) (cnd (okI y63 0) (again62
 ([.t (.bool ((gI y63 0) != 0))],[.box [.t (tI (cI p2 0 0)),.t (tI (cI p2 0 1)),.t (tI (cI p2 0 2)),.t (tI (cI p2 0 3)),.t (tI (cI p2 0 4)),.t (tI (cI p2 0 5)),AV.t
 (tI (cI p2 0 6)),.t (tI (cI p2 0 7)),.t (tI (cI p2 0 8)),.t (tI (cI p2 0 9)),.t (.bool (cB p2 0 10)),.t (.str (cS p2 0 11)),.t (tI (cI p2 0 12)),.t (tI (cI p2 0 13)),AV.t
 (tI (cI p2 0 14)),.t (tI (cI p2 0 15)),.t (tI (cI p2 0 16)),.t (tI (cI p2 0 17)),.t (tI (cI p2 0 18))],.box [.t (.str (cS p2 1 0)),.t (.bool (cB p2 1 1))],.box [AV.t
 (tI (vI p2 0)),.t (tI (vI p2 1)),.t (tI (vI p2 2)),.t (tI (vI p2 3)),.t (tI (vI p2 4)),.t (tI (vI p2 5)),.t (tI (vI p2 6)),.t (tI (vI p2 7)),.t (tI (vI p2 8)),.t (tI (vI p2
 9)),.t (.bool (vB p2 10)),.t (.str (vS p2 11)),.t (tI (vI p2 12)),.t (tI (vI p2 13)),.t (tI (vI p2 14)),.t (tI (vI p2 15)),.t (tI (vI p2 16)),.t (tI (vI p2 17)),AV.t
 (tI (vI p2 18))]])) none) none))
theorem e57 (n:Nat) (a0:ByteArray):AB C (n+1) 57 [.str a0]=
 Option.bind (AB C n 41 [.str a0]) fun y1=>cnd (length y1=3) (cnd (okS y1 0) (cnd (okI y1 1) (cnd (okI y1 2) (cnd (((gI y1 2) != 0)=true) (some [tI 0,tI
 (0:Int),tI 0,tI 0,tI 0,tI 0,tI 0,tI 0,tI 0,tI 0,.bool false,.str (ByteArray.mk #[]),tI 0,tI 0,tI 0,tI 0,
 tI 0,tI 0,tI 0,tI 0,.bool false]) (join (fun (p2:List AV×Heap)=>VF n y1 p2) fun (again3:_→Option (List Tree))=>join (fun (p4:List AV×Heap)=>VH
 n again3 p4) fun (again5:_→Option (List Tree))=>AH (fun (p6:List AV×Heap) (again7:_→Option (List Tree))=>Rn n again5 p6 again7) n ([.t (tI 0)],[.box [.t (tI
 (0:Int)),.t (tI 0),.t (tI 0),.t (tI 0),.t (tI 0),.t (tI 0),.t (tI 0),.t (tI 0),.t (tI 0),.t (tI 0),.t (.bool
 false),.t (.str (ByteArray.mk #[])),.t (tI 0),.t (tI 0),.t (tI 0),.t (tI 0),.t (tI 0),.t (tI 0),.t (tI 0)],.box [AV.t
 (Tree.str (gS y1 0)),.t (.bool false)],.box [.t (tI 0),.t (tI 0),.t (tI 0),.t (tI 0),.t (tI 0),.t (tI 0),.t (tI 0),.t (tI
 (0:Int)),.t (tI 0),.t (tI 0),.t (.bool false),.t (.str (ByteArray.mk #[])),.t (tI 0),.t (tI 0),.t (tI 0),.t (tI 0),.t (tI
 (0:Int)),.t (tI 0),.t (tI 0)],.box [.t (tI 0),.t (tI 0),.t (tI 0),.t (tI 0),.t (tI 0),.t (tI 0),.t (tI 0),.t (tI
 (0:Int)),.t (tI 0),.t (tI 0),.t (.bool false),.t (.str (ByteArray.mk #[])),.t (tI 0),.t (tI 0),.t (tI 0),.t (tI 0),.t (tI
 (0:Int)),.t (tI 0),.t (tI 0)],.box [AV.ptr 3 0,AV.ptr 3 18]]))) none) none) none) none:=by kernel_rfl
end Ab
