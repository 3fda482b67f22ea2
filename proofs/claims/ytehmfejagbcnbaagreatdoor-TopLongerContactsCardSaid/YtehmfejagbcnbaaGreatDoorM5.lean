/- A part of the proof: see the last text. -/
import Derived.Test.YtehmfejagbcnbaaGreatDoorM4
set_option linter.unusedVariables false
set_option linter.unusedSimpArgs false
open Bool (and_eq_true false_eq_true not_eq_true')
open Classical (not_not)
open Int (lt_irrefl toNat toNat_natCast)
open List (all_eq_true any_cons any_eq_true append_assoc append_nil cons_append drop drop_zero eq_nil_of_length_eq_zero filter_append filter_cons filter_eq_self find?_cons flatten_cons foldl_cons getElem?_append_left getElem?_cons_succ getElem?_drop getElem?_eq_getElem getElem?_eq_none getElem?_map getElem?_set_ne getElem?_take_of_lt getElem_mem length length_append length_cons length_drop length_map length_nil length_take map_append map_congr_left map_cons map_drop map_id map_map map_nil map_take mem_append mem_append_left mem_append_right mem_cons mem_cons_of_mem mem_cons_self mem_filter mem_filterMap mem_flatten mem_iff_getElem mem_iff_getElem? mem_map mem_of_getElem? mem_of_mem_drop mem_range mem_singleton nil_append nodup_append nodup_cons pairwise_append pairwise_cons replicate singleton_append take take_of_length_le)
open Nat (add_mul add_zero le_refl le_succ le_trans lt_or_ge not_lt reduceAdd reduceEqDiff zero_add zero_le)
open Option (getD_none isSome_none isSome_some map_none map_some)
set_option maxRecDepth 100000
namespace Ab
open Go Go.Proofs
theorem e48 (n:Nat) (a0:List (List Tree)) (a1:List (List Tree)) (a2:List (List Tree)):AM C (n+1) 48 [Tree.sl (1:Nat) a0,Tree.sl (7:Nat) a1,Tree.sl (5:Nat) a2]=
 Option.bind (AM C n (41:Nat) [Tree.sl (1:Nat) a0,Tree.sl (7:Nat) a1]) fun y3=>cnd (length y3=(1:Nat)) (cnd (okI y3 0) (cnd (((gI y3 0) != (0:Int))=true) (some [tI (1:Int)]) (cnd (decide
 (((length a2:Nat):Int)>(512:Int))=true) (some [tI (4:Int)]) (AO (fun (p4:List AV×Heap) (again5:_→Option (List Tree))=>cnd (decide (vI p4 0<((length a2:Nat):Int))=
 true) (cnd ((5:Nat)=(5:Nat)∧(0:Int)≤vI p4 0) (Option.bind a2[toNat (vI p4 0)]? fun y6=>cnd (okI y6 0) (cnd (okI y6 1) (cnd (okI y6 2) (cnd (okI y6 3) (cnd (okI y6 4) (Option.bind (AM C
 n (95:Nat) [Tree.sl (1:Nat) a0,Tree.sl (7:Nat) a1,tI (gI y6 0),tI (gI y6 1),tI (gI y6 2),tI (gI y6 3),tI (gI y6 4)]) fun y7=>cnd (length y7=(1:Nat)) (cnd (okB y7 0) (cnd ((!(gB y7 0))=
 true) (some [tI (2:Int)]) (cnd (decide (vI p4 0>(0:Int))=true) (cnd ((5:Nat)=(5:Nat)∧(0:Int)≤w64 ((vI p4 0)-(1:Int))) (Option.bind a2[toNat (w64 ((vI p4 0)-(1:Int)))]? fun y8=>cnd
 (okI y8 0) (cnd (okI y8 1) (cnd (okI y8 2) (cnd (okI y8 3) (cnd (okI y8 4) (Option.bind (AM C n (96:Nat) [tI (gI y8 0),tI (gI y8 1),tI (gI y8 2),tI (gI y8 3),tI (gI y8 4),tI (gI y6 0),tI (gI
 y6 1),tI (gI y6 2),tI (gI y6 3),tI (gI y6 4)]) fun y9=>cnd (length y9=(1:Nat)) (cnd (okI y9 0) (cnd (decide (gI y9 0>(0:Int))=true) (some [tI (9:Int)]) (again5 ([AV.t (tI (w64 ((vI p4
 0)+(1:Int))))],[]))) none) none) none) none) none) none) none) none) (again5 ([AV.t (tI (w64 ((vI p4 0)+(1:Int))))],[])))) none) none) none) none) none) none) none) none) (AO (fun (p10 :
 List AV×Heap) (again11:_→Option (List Tree))=>cnd (decide (vI p10 0<((length a0:Nat):Int))=true) (cnd ((1:Nat)=(1:Nat)∧(0:Int)≤vI p10 0) (Option.bind a0[toNat (vI p10 0)]?
 fun y12=>cnd (okI y12 0) (Option.bind (AM C n (98:Nat) [Tree.sl (5:Nat) a2,tI (vI p10 0)]) fun y13=>cnd (length y13=(1:Nat)) (cnd (okL 2 y13 0) (Option.bind (AM C n (97:Nat) [Tree.sl
 (2:Nat) (gL y13 0)]) fun y14=>cnd (length y14=(1:Nat)) (cnd (okI y14 0) (cnd (decide (gI y14 0>gI y12 0)=true) (some [tI (15:Int)]) (again11 ([AV.t (tI (w64 ((vI p10 0)+(1:Int))))],
 []))) none) none) none) none) none) none) (some [tI (0:Int)])) n ([AV.t (tI (0:Int))],[]))) n ([AV.t (tI (0:Int))],[])))) none) none:=by kernel_rfl
theorem e51 (n:Nat) (a0:List (List Tree)) (a1:List (List Tree)) (a2:List (List Tree)) (a3:Int) (a4:Int) (a5:Int) (a6:Int) (a7:Int):AM C (n+1) 51 [Tree.sl (1:Nat) a0,Tree.sl (7:Nat) a1,Tree.sl (5:Nat) a2,tI a3,tI a4,tI a5,tI a6,tI a7]=
 Option.bind (AM C n (48:Nat) [Tree.sl (1:Nat) a0,Tree.sl (7:Nat) a1,Tree.sl (5:Nat) a2]) fun y8=>cnd (length y8=(1:Nat)) (cnd (okI y8 0) (cnd (((gI y8 0) != (0:Int))=true) (some
 [Tree.sl (5:Nat) [],tI (1:Int)]) (Option.bind (AM C n (95:Nat) [Tree.sl (1:Nat) a0,Tree.sl (7:Nat) a1,tI a3,tI a4,tI a5,tI a6,tI a7]) fun y9=>cnd (length y9=(1:Nat)) (cnd (okB y9 0)
 (cnd ((!(gB y9 0))=true) (some [Tree.sl (5:Nat) [],tI (2:Int)]) (cnd ((((length a2:Nat):Int)==(512:Int))=true) (some [Tree.sl (5:Nat) [],tI (4:Int)]) (AO (fun (p10:List AV×Heap)
 (again11:_→Option (List Tree))=>cnd (decide (vI p10 0<vI p10 1)=true) (cnd ((5:Nat)=(5:Nat)∧(0:Int)≤w64 (Jj IntKind.u64 (IntKind.wrap IntKind.u64 (w64 ((vI p10 0)+(vI p10 1))))
 (1:Int))) (Option.bind a2[toNat (w64 (Jj IntKind.u64 (IntKind.wrap IntKind.u64 (w64 ((vI p10 0)+(vI p10 1)))) (1:Int)))]? fun y12=>cnd (okI y12 0) (cnd (okI y12 1) (cnd (okI y12 2) (cnd (okI
 y12 3) (cnd (okI y12 4) (Option.bind (AM C n (96:Nat) [tI (gI y12 0),tI (gI y12 1),tI (gI y12 2),tI (gI y12 3),tI (gI y12 4),tI a3,tI a4,tI a5,tI a6,tI a7]) fun y13=>cnd (length y13
 = (1:Nat)) (cnd (okI y13 0) (cnd (decide (gI y13 0<(0:Int))=true) (again11 ([AV.t (tI (w64 ((w64 (Jj IntKind.u64 (IntKind.wrap IntKind.u64 (w64 ((vI p10 0)+(vI p10 1)))) (1:Int))) +
 (1:Int)))),AV.t (tI (vI p10 1))],[])) (again11 ([AV.t (tI (vI p10 0)),AV.t (tI (w64 (Jj IntKind.u64 (IntKind.wrap IntKind.u64 (w64 ((vI p10 0)+(vI p10 1)))) (1:Int))))],[]))) none) none) none)
 none) none) none) none) none) (cnd (decide (vI p10 0<((length a2:Nat):Int))=true) (cnd ((5:Nat)=(5:Nat)∧(0:Int)≤vI p10 0) (Option.bind a2[toNat (vI p10 0)]? fun y14=>cnd (okI y14
 0) (cnd (okI y14 1) (cnd (okI y14 2) (cnd (okI y14 3) (cnd (okI y14 4) (Option.bind (AM C n (96:Nat) [tI (gI y14 0),tI (gI y14 1),tI (gI y14 2),tI (gI y14 3),tI (gI y14 4),tI a3,tI a4,tI a5,
 tI a6,tI a7]) fun y15=>cnd (length y15=(1:Nat)) (cnd (okI y15 0) (Option.bind (AM C n (1000106:Nat) [Tree.sl (5:Nat) a2]) fun y16=>cnd (length y16=(1:Nat)∧okL 5 y16 0) (cnd
 ((0:Nat)=(0:Nat)∧(5:Nat)=(5:Nat)∧(0:Nat)+(length (gL y16 0))=length (gL y16 0)∧(length (gL y16 0))+(1:Nat)≤(1073741824:Nat)∧(0:Int)≤vI p10 0∧vI p10 0≤
 ((length (gL y16 0):Nat):Int)∧(5:Nat)≠(1:Nat)) (Option.bind (AM C n (98:Nat) [Tree.sl (5:Nat) (take ((length (gL y16 0))+(1:Nat)) (((take (toNat (vI p10 0)) (gL y16
 0))++[[tI a3,tI a4,tI a5,tI a6,tI a7]])++(drop (toNat (vI p10 0)) (gL y16 0)))),tI a3]) fun y17=>cnd (length y17=(1:Nat)) (cnd (okL 2 y17 0) (Option.bind (AM C n (97:Nat)
 [Tree.sl (2:Nat) (gL y17 0)]) fun y18=>cnd (length y18=(1:Nat)) (cnd (okI y18 0) (cnd ((1:Nat)=(1:Nat)∧(0:Int)≤a3) (Option.bind a0[toNat a3]? fun y19=>cnd (okI y19 0) (cnd (decide
 (gI y18 0>gI y19 0)=true) (some [Tree.sl (5:Nat) [],tI (15:Int)]) (some [Tree.sl (5:Nat) (take ((length (gL y16 0))+(1:Nat)) (((take (toNat (vI p10 0)) (gL y16 0))++[[tI
 a3,tI a4,tI a5,tI a6,tI a7]])++(drop (toNat (vI p10 0)) (gL y16 0)))),tI (0:Int)])) none) none) none) none) none) none) none) none) none) none) none) none) none) none) none) none)
 (Option.bind (AM C n (1000106:Nat) [Tree.sl (5:Nat) a2]) fun y20=>cnd (length y20=(1:Nat)∧okL 5 y20 0) (cnd ((0:Nat)=(0:Nat)∧(5:Nat)=(5:Nat)∧(0:Nat)+(length (gL y20 0))=
 length (gL y20 0)∧(length (gL y20 0))+(1:Nat)≤(1073741824:Nat)∧(0:Int)≤vI p10 0∧vI p10 0≤((length (gL y20 0):Nat):Int)∧(5:Nat)≠(1:Nat)) (Option.bind (AM C n
 (98:Nat) [Tree.sl (5:Nat) (take ((length (gL y20 0))+(1:Nat)) (((take (toNat (vI p10 0)) (gL y20 0))++[[tI a3,tI a4,tI a5,tI a6,tI a7]])++(drop (toNat (vI p10 0))
 (gL y20 0)))),tI a3]) fun y21=>cnd (length y21=(1:Nat)) (cnd (okL 2 y21 0) (Option.bind (AM C n (97:Nat) [Tree.sl (2:Nat) (gL y21 0)]) fun y22=>cnd (length y22=(1:Nat)) (cnd (okI
 y22 0) (cnd ((1:Nat)=(1:Nat)∧(0:Int)≤a3) (Option.bind a0[toNat a3]? fun y23=>cnd (okI y23 0) (cnd (decide (gI y22 0>gI y23 0)=true) (some [Tree.sl (5:Nat) [],tI (15:Int)]) (some
 [Tree.sl (5:Nat) (take ((length (gL y20 0))+(1:Nat)) (((take (toNat (vI p10 0)) (gL y20 0))++[[tI a3,tI a4,tI a5,tI a6,tI a7]])++(drop (toNat (vI p10 0)) (gL y20
 0)))),tI (0:Int)])) none) none) none) none) none) none) none) none))) n ([AV.t (tI (0:Int)),AV.t (tI ((length a2:Nat):Int))],[])))) none) none)) none) none:=by kernel_rfl
theorem e85 (n:Nat) (a0:List (List Tree)) (a1:List (List Tree)) (a2:List (List Tree)) (a3:Int) (a4:Int):AM C (n+1) 85 [Tree.sl (1:Nat) a0,Tree.sl (7:Nat) a1,Tree.sl (5:Nat) a2,tI a3,tI a4]=
 Option.bind (AM C n (48:Nat) [Tree.sl (1:Nat) a0,Tree.sl (7:Nat) a1,Tree.sl (5:Nat) a2]) fun y5=>cnd (length y5=(1:Nat)) (cnd (okI y5 0) (cnd (((gI y5 0) != (0:Int))=true) (some
 [Tree.sl (2:Nat) [],tI (1:Int)]) (cnd (decide (a3<(0:Int))=true) (some [Tree.sl (2:Nat) [],tI (2:Int)]) (cnd (decide (a3≥((length a0:Nat):Int))=true) (some [Tree.sl (2:Nat) [],tI
 (2:Int)]) (cnd (decide (a4<(1:Int))=true) (some [Tree.sl (2:Nat) [],tI (2:Int)]) (cnd (decide (a4>(65536:Int))=true) (some [Tree.sl (2:Nat) [],tI (2:Int)]) (cnd ((1:Nat)=(1:Nat)∧(0:Int)
 ≤a3) (Option.bind a0[toNat a3]? fun y6=>cnd (okI y6 0) (cnd (decide (w64 ((gI y6 0)-(0:Int))<a4)=true) (Option.bind (AM C n (98:Nat) [Tree.sl (5:Nat) a2,tI a3]) fun y7=>cnd
 (length y7=(1:Nat)) (cnd (okL 2 y7 0) (AO (fun (p8:List AV×Heap) (again9:_→Option (List Tree))=>cnd (decide (vI p8 0<((length (gL y7 0):Nat):Int))=true) (cnd ((2:Nat)=
 (2:Nat)∧(0:Int)≤vI p8 0) (Option.bind (gL y7 0)[toNat (vI p8 0)]? fun y10=>cnd (okI y10 0) (cnd (okI y10 1) (cnd (decide (gI y10 0<(1099511627776:Int))=true) (cnd ((1:Nat)=(1:Nat)∧
 (0:Int)≤a3) (Option.bind a0[toNat a3]? fun y11=>cnd (okI y11 0) (cnd (decide (w64 ((gI y11 0)-(gI y10 1))<a4)=true) (cnd (decide (cI p8 2 0≥(0:Int))=true) (cnd (decide (cI p8 2 0 <
 gI y10 0)=true) (cnd (AF p8 0=AD p8 1 0∧((2:Nat)=(2:Nat)∨(2:Nat)=(0:Nat))∧(AE p8 1 0)+(AB p8 1 0)≤length (oEs p8 0)∧(AB p8 1 0)+(1:Nat)≤(1073741824:Nat)) (again9
 ([AV.t (tI (w64 ((vI p8 0)+(1:Int))))],[AA.row false ((AD p8 1 0)+(1:Nat)) (2:Nat) ((take (AB p8 1 0) (drop (AE p8 1 0) (oEs p8 0)))++[[tI (cI p8 2 0),tI (gI y10 0)]]),
 AA.box [AV.sref (0:Nat) ((AD p8 1 0)+(1:Nat)) (0:Nat) ((AB p8 1 0)+(1:Nat))],AA.box [AV.t (tI (-1:Int))],AA.box [AV.func (Fn.func 145) [] [AV.ptr (2:Nat) (0:Nat),AV.ptr (1:Nat)
 (0:Nat)]]])) none) (again9 ([AV.t (tI (w64 ((vI p8 0)+(1:Int))))],[AA.row false (AF p8 0) (2:Nat) (oEs p8 0),AA.box [AV.sref (0:Nat) (AD p8 1 0) (AE p8 1 0) (AB p8 1 0)],AA.box
 [AV.t (tI (-1:Int))],AA.box [AV.func (Fn.func 145) [] [AV.ptr (2:Nat) (0:Nat),AV.ptr (1:Nat) (0:Nat)]]]))) (again9 ([AV.t (tI (w64 ((vI p8 0)+(1:Int))))],[AA.row false (AF p8 0) (2:Nat)
 (oEs p8 0),AA.box [AV.sref (0:Nat) (AD p8 1 0) (AE p8 1 0) (AB p8 1 0)],AA.box [AV.t (tI (-1:Int))],AA.box [AV.func (Fn.func 145) [] [AV.ptr (2:Nat) (0:Nat),AV.ptr (1:Nat)
 (0:Nat)]]]))) (cnd (decide (cI p8 2 0<(0:Int))=true) (again9 ([AV.t (tI (w64 ((vI p8 0)+(1:Int))))],[AA.row false (AF p8 0) (2:Nat) (oEs p8 0),AA.box [AV.sref (0:Nat) (AD p8 1 0) (AE
 p8 1 0) (AB p8 1 0)],AA.box [AV.t (tI (gI y10 0))],AA.box [AV.func (Fn.func 145) [] [AV.ptr (2:Nat) (0:Nat),AV.ptr (1:Nat) (0:Nat)]]])) (again9 ([AV.t (tI (w64 ((vI p8 0)+(1:Int))))],
 [AA.row false (AF p8 0) (2:Nat) (oEs p8 0),AA.box [AV.sref (0:Nat) (AD p8 1 0) (AE p8 1 0) (AB p8 1 0)],AA.box [AV.t (tI (cI p8 2 0))],AA.box [AV.func (Fn.func 145) [] [AV.ptr
 (2:Nat) (0:Nat),AV.ptr (1:Nat) (0:Nat)]]])))) none) none) (again9 ([AV.t (tI (w64 ((vI p8 0)+(1:Int))))],[AA.row false (AF p8 0) (2:Nat) (oEs p8 0),AA.box [AV.sref (0:Nat) (AD p8 1 0)
 (AE p8 1 0) (AB p8 1 0)],AA.box [AV.t (tI (cI p8 2 0))],AA.box [AV.func (Fn.func 145) [] [AV.ptr (2:Nat) (0:Nat),AV.ptr (1:Nat) (0:Nat)]]]))) none) none) none) (cnd (decide (cI p8 2 0 ≥
 (0:Int))=true) (cnd (decide (cI p8 2 0<(1099511627776:Int))=true) (cnd (AF p8 0=AD p8 1 0∧((2:Nat)=(2:Nat)∨(2:Nat)=(0:Nat))∧(AE p8 1 0)+(AB p8 1 0)≤length (oEs p8 0)
 ∧(AB p8 1 0)+(1:Nat)≤(1073741824:Nat)) (cnd ((false=true∨false=false)∧(AD p8 1 0)+(1:Nat)=(AD p8 1 0)+(1:Nat)∧((2:Nat)=(2:Nat)∨(2:Nat)=(0:Nat))) (some [Tree.sl (2:Nat)
 (take ((AB p8 1 0)+(1:Nat)) ((take (AB p8 1 0) (drop (AE p8 1 0) (oEs p8 0)))++[[tI (cI p8 2 0),tI (1099511627776:Int)]])),tI (0:Int)]) none) none) (cnd ((false=true∨
 false=false)∧AF p8 0=AD p8 1 0∧((2:Nat)=(2:Nat)∨(2:Nat)=(0:Nat))) (some [Tree.sl (2:Nat) (take (AB p8 1 0) (drop (AE p8 1 0) (oEs p8 0))),tI (0:Int)]) none)) (cnd
 ((false=true∨false=false)∧AF p8 0=AD p8 1 0∧((2:Nat)=(2:Nat)∨(2:Nat)=(0:Nat))) (some [Tree.sl (2:Nat) (take (AB p8 1 0) (drop (AE p8 1 0) (oEs p8 0))),tI (0:Int)])
 none))) n ([AV.t (tI (0:Int))],[AA.row false (0:Nat) (2:Nat) [],AA.box [AV.sref (0:Nat) (0:Nat) (0:Nat) (0:Nat)],AA.box [AV.t (tI (-1:Int))],AA.box [AV.func (Fn.func 145) [] [AV.ptr
 (2:Nat) (0:Nat),AV.ptr (1:Nat) (0:Nat)]]])) none) none) (Option.bind (AM C n (98:Nat) [Tree.sl (5:Nat) a2,tI a3]) fun y12=>cnd (length y12=(1:Nat)) (cnd (okL 2 y12 0) (AO (fun (p13
 : List AV×Heap) (again14:_→Option (List Tree))=>cnd (decide (vI p13 0<((length (gL y12 0):Nat):Int))=true) (cnd ((2:Nat)=(2:Nat)∧(0:Int)≤vI p13 0) (Option.bind (gL y12
 0)[toNat (vI p13 0)]? fun y15=>cnd (okI y15 0) (cnd (okI y15 1) (cnd (decide (gI y15 0<(1099511627776:Int))=true) (cnd ((1:Nat)=(1:Nat)∧(0:Int)≤a3) (Option.bind a0[toNat a3]? fun
 y16=>cnd (okI y16 0) (cnd (decide (w64 ((gI y16 0)-(gI y15 1))<a4)=true) (cnd (decide (cI p13 2 0≥(0:Int))=true) (cnd (decide (cI p13 2 0<gI y15 0)=true) (cnd (AF p13 0=AD p13 1
 0∧((2:Nat)=(2:Nat)∨(2:Nat)=(0:Nat))∧(AE p13 1 0)+(AB p13 1 0)≤length (oEs p13 0)∧(AB p13 1 0)+(1:Nat)≤(1073741824:Nat)) (again14 ([AV.t (tI (w64 ((vI p13 0) +
 (1:Int))))],[AA.row false ((AD p13 1 0)+(1:Nat)) (2:Nat) ((take (AB p13 1 0) (drop (AE p13 1 0) (oEs p13 0)))++[[tI (cI p13 2 0),tI (gI y15 0)]]),AA.box [AV.sref (0:Nat)
 ((AD p13 1 0)+(1:Nat)) (0:Nat) ((AB p13 1 0)+(1:Nat))],AA.box [AV.t (tI (-1:Int))],AA.box [AV.func (Fn.func 145) [] [AV.ptr (2:Nat) (0:Nat),AV.ptr (1:Nat) (0:Nat)]]])) none) (again14
 ([AV.t (tI (w64 ((vI p13 0)+(1:Int))))],[AA.row false (AF p13 0) (2:Nat) (oEs p13 0),AA.box [AV.sref (0:Nat) (AD p13 1 0) (AE p13 1 0) (AB p13 1 0)],AA.box [AV.t (tI (-1:Int))],
 AA.box [AV.func (Fn.func 145) [] [AV.ptr (2:Nat) (0:Nat),AV.ptr (1:Nat) (0:Nat)]]]))) (again14 ([AV.t (tI (w64 ((vI p13 0)+(1:Int))))],[AA.row false (AF p13 0) (2:Nat) (oEs p13 0),AA.box
 [AV.sref (0:Nat) (AD p13 1 0) (AE p13 1 0) (AB p13 1 0)],AA.box [AV.t (tI (-1:Int))],AA.box [AV.func (Fn.func 145) [] [AV.ptr (2:Nat) (0:Nat),AV.ptr (1:Nat) (0:Nat)]]]))) (cnd (decide (cI
 p13 2 0<(0:Int))=true) (again14 ([AV.t (tI (w64 ((vI p13 0)+(1:Int))))],[AA.row false (AF p13 0) (2:Nat) (oEs p13 0),AA.box [AV.sref (0:Nat) (AD p13 1 0) (AE p13 1 0) (AB p13 1
 0)],AA.box [AV.t (tI (gI y15 0))],AA.box [AV.func (Fn.func 145) [] [AV.ptr (2:Nat) (0:Nat),AV.ptr (1:Nat) (0:Nat)]]])) (again14 ([AV.t (tI (w64 ((vI p13 0)+(1:Int))))],[AA.row false (AF
 p13 0) (2:Nat) (oEs p13 0),AA.box [AV.sref (0:Nat) (AD p13 1 0) (AE p13 1 0) (AB p13 1 0)],AA.box [AV.t (tI (cI p13 2 0))],AA.box [AV.func (Fn.func 145) [] [AV.ptr (2:Nat) (0:Nat),
 AV.ptr (1:Nat) (0:Nat)]]])))) none) none) (again14 ([AV.t (tI (w64 ((vI p13 0)+(1:Int))))],[AA.row false (AF p13 0) (2:Nat) (oEs p13 0),AA.box [AV.sref (0:Nat) (AD p13 1 0) (AE p13 1 0)
 (AB p13 1 0)],AA.box [AV.t (tI (cI p13 2 0))],AA.box [AV.func (Fn.func 145) [] [AV.ptr (2:Nat) (0:Nat),AV.ptr (1:Nat) (0:Nat)]]]))) none) none) none) (cnd (decide (cI p13 2 0≥(0:Int))=
 true) (cnd (decide (cI p13 2 0<(1099511627776:Int))=true) (cnd (AF p13 0=AD p13 1 0∧((2:Nat)=(2:Nat)∨(2:Nat)=(0:Nat))∧(AE p13 1 0)+(AB p13 1 0)≤length (oEs p13 0)∧
 (AB p13 1 0)+(1:Nat)≤(1073741824:Nat)) (cnd ((false=true∨false=false)∧(AD p13 1 0)+(1:Nat)=(AD p13 1 0)+(1:Nat)∧((2:Nat)=(2:Nat)∨(2:Nat)=(0:Nat))) (some [Tree.sl
 (2:Nat) (take ((AB p13 1 0)+(1:Nat)) ((take (AB p13 1 0) (drop (AE p13 1 0) (oEs p13 0)))++[[tI (cI p13 2 0),tI (1099511627776:Int)]])),tI (0:Int)]) none) none) (cnd ((false
 = true∨false=false)∧AF p13 0=AD p13 1 0∧((2:Nat)=(2:Nat)∨(2:Nat)=(0:Nat))) (some [Tree.sl (2:Nat) (take (AB p13 1 0) (drop (AE p13 1 0) (oEs p13 0))),tI (0:Int)])
 none)) (cnd ((false=true∨false=false)∧AF p13 0=AD p13 1 0∧((2:Nat)=(2:Nat)∨(2:Nat)=(0:Nat))) (some [Tree.sl (2:Nat) (take (AB p13 1 0) (drop (AE p13 1 0) (oEs p13
 0))),tI (0:Int)]) none))) n ([AV.t (tI (0:Int))],[AA.row false (0:Nat) (2:Nat) [],AA.box [AV.sref (0:Nat) (0:Nat) (0:Nat) (0:Nat)],AA.box [AV.t (tI (0:Int))],AA.box [AV.func (Fn.func 145)
 [] [AV.ptr (2:Nat) (0:Nat),AV.ptr (1:Nat) (0:Nat)]]])) none) none)) none) none)))))) none) none:=by kernel_rfl
theorem e95 (n:Nat) (a0:List (List Tree)) (a1:List (List Tree)) (a2:Int) (a3:Int) (a4:Int) (a5:Int) (a6:Int):AM C (n+1) 95 [Tree.sl (1:Nat) a0,Tree.sl (7:Nat) a1,tI a2,tI a3,tI a4,tI a5,tI a6]=
 cnd (decide (a2≥(0:Int))=true) (cnd (decide (a2<((length a0:Nat):Int))=true) (cnd (decide (a3≥(0:Int))=true) (cnd (decide (a3<a4)=true) (cnd (decide (a4≤(1099511627776:Int))=
 true) (cnd (decide (a5≥(1:Int))=true) (cnd (decide (a5≤(65536:Int))=true) (cnd (decide (a6≥(0:Int))=true) (some [Tree.bool (decide (a6≤(1152921504606846976:Int)))]) (some [Tree.bool
 false])) (some [Tree.bool false])) (some [Tree.bool false])) (some [Tree.bool false])) (some [Tree.bool false])) (some [Tree.bool false])) (some [Tree.bool false])) (some [Tree.bool false]):=by kernel_rfl
theorem e96 (n:Nat) (a0:Int) (a1:Int) (a2:Int) (a3:Int) (a4:Int) (a5:Int) (a6:Int) (a7:Int) (a8:Int) (a9:Int):AM C (n+1) 96 [tI a0,tI a1,tI a2,tI a3,tI a4,tI a5,tI a6,tI a7,tI a8,tI a9]=
 Option.bind (AM C n (35:Nat) [tI a0,tI a5]) fun y10=>cnd (length y10=(1:Nat)) (cnd (okI y10 0) (Option.bind (AM C n (35:Nat) [tI a1,tI a6]) fun y11=>cnd (length y11=(1:Nat))
 (cnd (okI y11 0) (Option.bind (AM C n (35:Nat) [tI a2,tI a7]) fun y12=>cnd (length y12=(1:Nat)) (cnd (okI y12 0) (Option.bind (AM C n (35:Nat) [tI a4,tI a9]) fun y13=>cnd
 (length y13=(1:Nat)) (cnd (okI y13 0) (Option.bind (AM C n (35:Nat) [tI a3,tI a8]) fun y14=>cnd (length y14=(1:Nat)) (cnd (okI y14 0) (Option.bind (AM C n (34:Nat) [Tree.sl
 (1:Nat) [[tI (gI y10 0)],[tI (gI y11 0)],[tI (gI y12 0)],[tI (gI y13 0)],[tI (gI y14 0)]]]) fun y15=>cnd (length y15=(1:Nat)) (cnd (okI y15 0) (some [tI (gI y15 0)]) none) none) none)
 none) none) none) none) none) none) none) none) none:=by kernel_rfl
theorem e97 (n:Nat) (a0:List (List Tree)):AM C (n+1) 97 [Tree.sl (2:Nat) a0]=
 AO (fun (p1:List AV×Heap) (again2:_→Option (List Tree))=>cnd (decide (vI p1 1<((length a0:Nat):Int))=true) (cnd ((2:Nat)=(2:Nat)∧(0:Int)≤vI p1 1) (Option.bind
 a0[toNat (vI p1 1)]? fun y3=>cnd (okI y3 0) (cnd (okI y3 1) (again2 ([AV.t (tI (if gI y3 1>vI p1 0 then gI y3 1 else vI p1 0)),AV.t (tI (w64 ((vI p1 1)+(1:Int))))],[])) none) none) none)
 (some [tI (vI p1 0)])) n ([AV.t (tI (0:Int)),AV.t (tI (0:Int))],[]):=by kernel_rfl
theorem e98 (n:Nat) (a0:List (List Tree)) (a1:Int):AM C (n+1) 98 [Tree.sl (5:Nat) a0,tI a1]=
 AO (fun (p2:List AV×Heap) (again3:_→Option (List Tree))=>cnd (decide (vI p2 0<((length a0:Nat):Int))=true) (cnd ((5:Nat)=(5:Nat)∧(0:Int)≤vI p2 0) (Option.bind
 a0[toNat (vI p2 0)]? fun y4=>cnd (okI y4 0) (cnd (okI y4 1) (cnd (okI y4 2) (cnd (okI y4 3) (cnd (okI y4 4) (cnd (((gI y4 0)==a1)=true) (cnd ((!(Option.isSome (As (gI y4 1) (oMs p2 0))))
 = true) (cnd (AF p2 2=AD p2 3 0∧((1:Nat)=(1:Nat)∨(1:Nat)=(0:Nat))∧(AE p2 3 0)+(AB p2 3 0)≤length (oEs p2 2)∧(AB p2 3 0)+(1:Nat)≤(1073741824:Nat)) (cnd
 ((!(Option.isSome (As (gI y4 2) (BK (gI y4 1) (w64 ((Option.getD (As (gI y4 1) (oMs p2 0)) (0:Int))+(gI y4 3))) (oMs p2 0)))))=true) (cnd ((AD p2 3 0)+(1:Nat)=(AD p2 3 0) +
 (1:Nat)∧((1:Nat)=(1:Nat)∨(1:Nat)=(0:Nat))∧(0:Nat)+((AB p2 3 0)+(1:Nat))≤length ((take (AB p2 3 0) (drop (AE p2 3 0) (oEs p2 2)))++[[tI (gI y4 1)]])∧((AB p2 3
 0)+(1:Nat))+(1:Nat)≤(1073741824:Nat)) (again3 ([AV.t (tI (w64 ((vI p2 0)+(1:Int))))],[AA.mapo IntKind.i64 IntKind.i64 (BK (gI y4 2) (w64 ((Option.getD (As (gI y4 2) (BK (gI y4
 1) (w64 ((Option.getD (As (gI y4 1) (oMs p2 0)) (0:Int))+(gI y4 3))) (oMs p2 0))) (0:Int))+(w64 ((0:Int)-(gI y4 3))))) (BK (gI y4 1) (w64 ((Option.getD (As (gI y4 1) (oMs p2 0))
 (0:Int))+(gI y4 3))) (oMs p2 0))),AA.box [AV.mref (0:Nat)],AA.row false (((AD p2 3 0)+(1:Nat))+(1:Nat)) (1:Nat) ((take ((AB p2 3 0)+(1:Nat)) ((take (AB p2 3 0) (drop
 (AE p2 3 0) (oEs p2 2)))++[[tI (gI y4 1)]]))++[[tI (gI y4 2)]]),AA.box [AV.sref (2:Nat) (((AD p2 3 0)+(1:Nat))+(1:Nat)) (0:Nat) (((AB p2 3 0)+(1:Nat))+(1:Nat))]])) none) (again3
 ([AV.t (tI (w64 ((vI p2 0)+(1:Int))))],[AA.mapo IntKind.i64 IntKind.i64 (BK (gI y4 2) (w64 ((Option.getD (As (gI y4 2) (BK (gI y4 1) (w64 ((Option.getD (As (gI y4 1) (oMs p2 0))
 (0:Int))+(gI y4 3))) (oMs p2 0))) (0:Int))+(w64 ((0:Int)-(gI y4 3))))) (BK (gI y4 1) (w64 ((Option.getD (As (gI y4 1) (oMs p2 0)) (0:Int))+(gI y4 3))) (oMs p2 0))),AA.box [AV.mref
 (0:Nat)],AA.row false ((AD p2 3 0)+(1:Nat)) (1:Nat) ((take (AB p2 3 0) (drop (AE p2 3 0) (oEs p2 2)))++[[tI (gI y4 1)]]),AA.box [AV.sref (2:Nat) ((AD p2 3 0)+(1:Nat))
 (0:Nat) ((AB p2 3 0)+(1:Nat))]]))) none) (cnd ((!(Option.isSome (As (gI y4 2) (BK (gI y4 1) (w64 ((Option.getD (As (gI y4 1) (oMs p2 0)) (0:Int))+(gI y4 3))) (oMs p2 0)))))=true)
 (cnd (AF p2 2=AD p2 3 0∧((1:Nat)=(1:Nat)∨(1:Nat)=(0:Nat))∧(AE p2 3 0)+(AB p2 3 0)≤length (oEs p2 2)∧(AB p2 3 0)+(1:Nat)≤(1073741824:Nat)) (again3 ([AV.t (tI (w64
 ((vI p2 0)+(1:Int))))],[AA.mapo IntKind.i64 IntKind.i64 (BK (gI y4 2) (w64 ((Option.getD (As (gI y4 2) (BK (gI y4 1) (w64 ((Option.getD (As (gI y4 1) (oMs p2 0)) (0:Int))+(gI y4
 3))) (oMs p2 0))) (0:Int))+(w64 ((0:Int)-(gI y4 3))))) (BK (gI y4 1) (w64 ((Option.getD (As (gI y4 1) (oMs p2 0)) (0:Int))+(gI y4 3))) (oMs p2 0))),AA.box [AV.mref (0:Nat)],AA.row
 false ((AD p2 3 0)+(1:Nat)) (1:Nat) ((take (AB p2 3 0) (drop (AE p2 3 0) (oEs p2 2)))++[[tI (gI y4 2)]]),AA.box [AV.sref (2:Nat) ((AD p2 3 0)+(1:Nat)) (0:Nat) ((AB p2 3 0)
 + (1:Nat))]])) none) (again3 ([AV.t (tI (w64 ((vI p2 0)+(1:Int))))],[AA.mapo IntKind.i64 IntKind.i64 (BK (gI y4 2) (w64 ((Option.getD (As (gI y4 2) (BK (gI y4 1) (w64 ((Option.getD
 (As (gI y4 1) (oMs p2 0)) (0:Int))+(gI y4 3))) (oMs p2 0))) (0:Int))+(w64 ((0:Int)-(gI y4 3))))) (BK (gI y4 1) (w64 ((Option.getD (As (gI y4 1) (oMs p2 0)) (0:Int))+(gI y4 3)))
 (oMs p2 0))),AA.box [AV.mref (0:Nat)],AA.row false (AF p2 2) (1:Nat) (oEs p2 2),AA.box [AV.sref (2:Nat) (AD p2 3 0) (AE p2 3 0) (AB p2 3 0)]])))) (again3 ([AV.t (tI (w64 ((vI p2 0) +
 (1:Int))))],[AA.mapo IntKind.i64 IntKind.i64 (oMs p2 0),AA.box [AV.mref (0:Nat)],AA.row false (AF p2 2) (1:Nat) (oEs p2 2),AA.box [AV.sref (2:Nat) (AD p2 3 0) (AE p2 3 0) (AB p2 3
 0)]]))) none) none) none) none) none) none) (cnd (AF p2 2=AD p2 3 0∧(1:Nat)=(1:Nat)∧(AE p2 3 0)+(AB p2 3 0)≤length (oEs p2 2)∧AB p2 3 0≤(1073741824:Nat)∧Av
 (1:Nat) (take (AB p2 3 0) (drop (AE p2 3 0) (oEs p2 2)))=true) (cnd (AD p2 3 0=AD p2 3 0) (AO (fun (p5:List AV×Heap) (again6:_→Option (List Tree))=>cnd (decide
 (vI p5 2<((AB p2 3 0:Nat):Int))=true) (cnd (AF p5 2=AD p2 3 0∧(1:Nat)=(1:Nat)∧(0:Int)≤vI p5 2∧vI p5 2<((AB p2 3 0:Nat):Int)) (cnd (AF p5 2=AD p2 3 0) (Option.bind (oEs
 p5 2)[(AE p2 3 0)+(toNat (vI p5 2))]? fun y7=>cnd (okI y7 0) (cnd (((Option.getD (As (gI y7 0) (oMs p5 0)) (0:Int))==(0:Int))=true) (again6 ([AV.t (tI (vI p5 0)),AV.sref (4:Nat)
 (Fl p5 1) (Fw p5 1) (A8 p5 1),AV.t (tI (w64 ((vI p5 2)+(1:Int))))],[AA.mapo IntKind.i64 IntKind.i64 (oMs p5 0),AA.box [AV.mref (0:Nat)],AA.row false (AF p5 2) (1:Nat) (oEs p5 2),
 AA.box [AV.sref (2:Nat) (AD p5 3 0) (AE p5 3 0) (AB p5 3 0)],AA.row false (AF p5 4) (2:Nat) (oEs p5 4)])) (cnd (AF p5 4=Fl p5 1∧((2:Nat)=(2:Nat)∨(2:Nat)=(0:Nat))∧(Fw p5
 1)+(A8 p5 1)≤length (oEs p5 4)∧(A8 p5 1)+(1:Nat)≤(1073741824:Nat)) (again6 ([AV.t (tI (w64 ((vI p5 0)+(Option.getD (As (gI y7 0) (oMs p5 0)) (0:Int))))),AV.sref (4:Nat)
 ((Fl p5 1)+(1:Nat)) (0:Nat) ((A8 p5 1)+(1:Nat)),AV.t (tI (w64 ((vI p5 2)+(1:Int))))],[AA.mapo IntKind.i64 IntKind.i64 (oMs p5 0),AA.box [AV.mref (0:Nat)],AA.row false (AF p5 2)
 (1:Nat) (oEs p5 2),AA.box [AV.sref (2:Nat) (AD p5 3 0) (AE p5 3 0) (AB p5 3 0)],AA.row false ((Fl p5 1)+(1:Nat)) (2:Nat) ((take (A8 p5 1) (drop (Fw p5 1) (oEs p5 4))) ++
 [[tI (gI y7 0),tI (w64 ((vI p5 0)+(Option.getD (As (gI y7 0) (oMs p5 0)) (0:Int))))]])])) none)) none) none) none) (cnd ((false=true∨false=false)∧AF p5 4=Fl p5 1∧((2:Nat)=
 (2:Nat)∨(2:Nat)=(0:Nat))) (some [Tree.sl (2:Nat) (take (A8 p5 1) (drop (Fw p5 1) (oEs p5 4)))]) none)) n ([AV.t (tI (0:Int)),AV.sref (4:Nat) (0:Nat) (0:Nat) (0:Nat),AV.t (tI
 (0:Int))],[AA.mapo IntKind.i64 IntKind.i64 (oMs p2 0),AA.box [AV.mref (0:Nat)],AA.row false (AD p2 3 0) (1:Nat) (A0 (oEs p2 2) (AE p2 3 0) (Ei (take (AB p2 3 0) (drop
 (AE p2 3 0) (oEs p2 2))))),AA.box [AV.sref (2:Nat) (AD p2 3 0) (AE p2 3 0) (AB p2 3 0)],AA.row false (0:Nat) (2:Nat) []])) none) none)) n ([AV.t (tI (0:Int))],[AA.mapo IntKind.i64
 IntKind.i64 [],AA.box [AV.mref (0:Nat)],AA.row false (0:Nat) (1:Nat) [],AA.box [AV.sref (2:Nat) (0:Nat) (0:Nat) (0:Nat)]]):=by kernel_rfl
theorem e58 (n:Nat) (a0:List (List Tree)) (a1:List (List Tree)) (a2:List (List Tree)):AM C (n+1) 58 [Tree.sl (1:Nat) a0,Tree.sl (7:Nat) a1,Tree.sl (5:Nat) a2]=
 Option.bind (AM C n (15:Nat) [Tree.sl (1:Nat) a0,Tree.sl (7:Nat) a1]) fun y3=>cnd (length y3=(1:Nat)) (cnd (okI y3 0) (cnd (((gI y3 0) != (0:Int))=true) (some [tI (1:Int)]) (cnd (decide
 (((length a2:Nat):Int)>(512:Int))=true) (some [tI (4:Int)]) (AO (fun (p4:List AV×Heap) (again5:_→Option (List Tree))=>cnd (decide (vI p4 0<((length a2:Nat):Int))=
 true) (cnd ((5:Nat)=(5:Nat)∧(0:Int)≤vI p4 0) (Option.bind a2[toNat (vI p4 0)]? fun y6=>cnd (okI y6 0) (cnd (okI y6 1) (cnd (okI y6 2) (cnd (okI y6 3) (cnd (okI y6 4) (Option.bind (AM C
 n (109:Nat) [Tree.sl (1:Nat) a0,Tree.sl (7:Nat) a1,tI (gI y6 0),tI (gI y6 1),tI (gI y6 2),tI (gI y6 3),tI (gI y6 4)]) fun y7=>cnd (length y7=(1:Nat)) (cnd (okB y7 0) (cnd ((!(gB y7 0))
 = true) (some [tI (2:Int)]) (cnd (decide (vI p4 0>(0:Int))=true) (cnd ((5:Nat)=(5:Nat)∧(0:Int)≤vI p4 0) (Option.bind a2[toNat (vI p4 0)]? fun y8=>cnd (okI y8 0) (cnd (okI y8 1) (cnd
 (okI y8 2) (cnd (okI y8 3) (cnd (okI y8 4) (cnd ((5:Nat)=(5:Nat)∧(0:Int)≤w64 ((vI p4 0)-(1:Int))) (Option.bind a2[toNat (w64 ((vI p4 0)-(1:Int)))]? fun y9=>cnd (okI y9 0) (cnd (okI y9
 1) (cnd (okI y9 2) (cnd (okI y9 3) (cnd (okI y9 4) (Option.bind (AM C n (110:Nat) [tI (gI y8 0),tI (gI y8 1),tI (gI y8 2),tI (gI y8 3),tI (gI y8 4),tI (gI y9 0),tI (gI y9 1),tI (gI y9 2),tI
 (gI y9 3),tI (gI y9 4)]) fun y10=>cnd (length y10=(1:Nat)) (cnd (okB y10 0) (cnd (gB y10 0=true) (some [tI (9:Int)]) (again5 ([AV.t (tI (w64 ((vI p4 0)+(1:Int))))],[]))) none) none)
 none) none) none) none) none) none) none) none) none) none) none) none) (again5 ([AV.t (tI (w64 ((vI p4 0)+(1:Int))))],[])))) none) none) none) none) none) none) none) none) (Option.bind (AM C n
 (111:Nat) [Tree.sl (1:Nat) a0,Tree.sl (7:Nat) a1,Tree.sl (5:Nat) a2]) fun y11=>cnd (length y11=(1:Nat)) (cnd (okB y11 0) (cnd ((!(gB y11 0))=true) (some [tI (15:Int)]) (some [tI
 (0:Int)])) none) none)) n ([AV.t (tI (0:Int))],[])))) none) none:=by kernel_rfl
theorem e109 (n:Nat) (a0:List (List Tree)) (a1:List (List Tree)) (a2:Int) (a3:Int) (a4:Int) (a5:Int) (a6:Int):AM C (n+1) 109 [Tree.sl (1:Nat) a0,Tree.sl (7:Nat) a1,tI a2,tI a3,tI a4,tI a5,tI a6]=
 cnd (decide (a2≥(0:Int))=true) (cnd (decide (a2<((length a0:Nat):Int))=true) (cnd (decide (a3≥(0:Int))=true) (cnd (decide (a3<a4)=true) (cnd (decide (a4≤(1099511627776:Int))=
 true) (cnd (decide (a5≥(1:Int))=true) (cnd (decide (a5≤(65536:Int))=true) (cnd (decide (a6≥(0:Int))=true) (some [Tree.bool (decide (a6≤(1152921504606846976:Int)))]) (some [Tree.bool
 false])) (some [Tree.bool false])) (some [Tree.bool false])) (some [Tree.bool false])) (some [Tree.bool false])) (some [Tree.bool false])) (some [Tree.bool false])) (some [Tree.bool false]):=by kernel_rfl
theorem e110 (n:Nat) (a0:Int) (a1:Int) (a2:Int) (a3:Int) (a4:Int) (a5:Int) (a6:Int) (a7:Int) (a8:Int) (a9:Int):AM C (n+1) 110 [tI a0,tI a1,tI a2,tI a3,tI a4,tI a5,tI a6,tI a7,tI a8,tI a9]=
 cnd ((a0 != a5)=true) (some [Tree.bool (decide (a0<a5))]) (cnd ((a1 != a6)=true) (some [Tree.bool (decide (a1<a6))]) (cnd ((a2 != a7)=true) (some [Tree.bool (decide (a2<a7))]) (cnd ((a4 !=
 a9)=true) (some [Tree.bool (decide (a4<a9))]) (some [Tree.bool (decide (a3<a8))])))):=by kernel_rfl
theorem e111 (n:Nat) (a0:List (List Tree)) (a1:List (List Tree)) (a2:List (List Tree)):AM C (n+1) 111 [Tree.sl (1:Nat) a0,Tree.sl (7:Nat) a1,Tree.sl (5:Nat) a2]=
 AO (fun (p3:List AV×Heap) (again4:_→Option (List Tree))=>cnd (decide (vI p3 0<((length a2:Nat):Int))=true) (cnd ((5:Nat)=(5:Nat)∧(0:Int)≤vI p3 0) (Option.bind
 a2[toNat (vI p3 0)]? fun y5=>cnd (okI y5 0) (cnd ((5:Nat)=(5:Nat)∧(0:Int)≤vI p3 0) (Option.bind a2[toNat (vI p3 0)]? fun y6=>cnd (okI y6 1) (Option.bind (AM C n (162:Nat) [Tree.sl
 (5:Nat) a2,tI (gI y5 0),tI (gI y6 1)]) fun y7=>cnd (length y7=(1:Nat)) (cnd (okI y7 0) (cnd ((5:Nat)=(5:Nat)∧(0:Int)≤vI p3 0) (Option.bind a2[toNat (vI p3 0)]? fun y8=>cnd (okI
 y8 0) (cnd ((1:Nat)=(1:Nat)∧(0:Int)≤gI y8 0) (Option.bind a0[toNat (gI y8 0)]? fun y9=>cnd (okI y9 0) (cnd (decide (gI y7 0>gI y9 0)=true) (some [Tree.bool false]) (again4 ([AV.t (tI
 (w64 ((vI p3 0)+(1:Int))))],[]))) none) none) none) none) none) none) none) none) none) none) (some [Tree.bool true])) n ([AV.t (tI (0:Int))],[]):=by kernel_rfl
theorem e162 (n:Nat) (a0:List (List Tree)) (a1:Int) (a2:Int):AM C (n+1) 162 [Tree.sl (5:Nat) a0,tI a1,tI a2]=
 AO (fun (p3:List AV×Heap) (again4:_→Option (List Tree))=>cnd (decide (vI p3 1<((length a0:Nat):Int))=true) (cnd ((5:Nat)=(5:Nat)∧(0:Int)≤vI p3 1) (Option.bind
 a0[toNat (vI p3 1)]? fun y5=>cnd (okI y5 0) (cnd (((gI y5 0)==a1)=true) (cnd ((5:Nat)=(5:Nat)∧(0:Int)≤vI p3 1) (Option.bind a0[toNat (vI p3 1)]? fun y6=>cnd (okI y6 1) (cnd
 (decide (gI y6 1≤a2)=true) (cnd ((5:Nat)=(5:Nat)∧(0:Int)≤vI p3 1) (Option.bind a0[toNat (vI p3 1)]? fun y7=>cnd (okI y7 2) (cnd (decide (a2<gI y7 2)=true) (cnd ((5:Nat)=(5:Nat)∧
 (0:Int)≤vI p3 1) (Option.bind a0[toNat (vI p3 1)]? fun y8=>cnd (okI y8 3) (again4 ([AV.t (tI (w64 ((vI p3 0)+(gI y8 3)))),AV.t (tI (w64 ((vI p3 1)+(1:Int))))],[])) none) none) (again4
 ([AV.t (tI (vI p3 0)),AV.t (tI (w64 ((vI p3 1)+(1:Int))))],[]))) none) none) (again4 ([AV.t (tI (vI p3 0)),AV.t (tI (w64 ((vI p3 1)+(1:Int))))],[]))) none) none) (again4 ([AV.t (tI (vI p3 0)),
 AV.t (tI (w64 ((vI p3 1)+(1:Int))))],[]))) none) none) (some [tI (vI p3 0)])) n ([AV.t (tI (0:Int)),AV.t (tI (0:Int))],[]):=by kernel_rfl
theorem Ts (n:Nat) (a0:List (List Tree)):AM C (n+1) 1000106 [Tree.sl (5:Nat) a0]=
 cnd (length a0≠(0:Nat)) (cnd (length a0≤(1073741824:Nat)) (some [Tree.sl (5:Nat) (take (length a0) a0)]) none) (both (some [Tree.sl (5:Nat) []]) (cnd (length a0≤
 (1073741824:Nat)) (some [Tree.sl (5:Nat) (take (length a0) a0)]) none)):=by kernel_rfl
end Ab
set_option maxRecDepth 100000
namespace Ab
open Go Go.Proofs
theorem e34 (n:Nat) (a0:List (List Tree)):AM C (n+1) 34 [Tree.sl (1:Nat) a0]=
 AO (fun (p1:List AV×Heap) (again2:_→Option (List Tree))=>cnd (decide (vI p1 0<((length a0:Nat):Int))=true) (cnd ((1:Nat)=(1:Nat)∧(0:Int)≤vI p1 0) (Option.bind
 a0[toNat (vI p1 0)]? fun y3=>cnd (okI y3 0) (cnd (((gI y3 0) != (0:Int))=true) (some [tI (gI y3 0)]) (again2 ([AV.t (tI (w64 ((vI p1 0)+(1:Int))))],[]))) none) none) (some [tI (0:Int)])) n
 ([AV.t (tI (0:Int))],[]):=by kernel_rfl
theorem e35 (n:Nat) (a0:Int) (a1:Int):AM C (n+1) 35 [tI a0,tI a1]=
 Option.bind (AM C n (74:Nat) [tI a0]) fun y2=>cnd (length y2=(1:Nat)) (cnd (okB y2 0) (Option.bind (AM C n (74:Nat) [tI a1]) fun y3=>cnd (length y3=(1:Nat)) (cnd (okB y3 0)
 (cnd (gB y2 0=true) (cnd (gB y3 0=true) (some [tI (0:Int)]) (some [tI (-1:Int)])) (cnd (gB y3 0=true) (some [tI (1:Int)]) (cnd (decide (a0<a1)=true) (some [tI (-1:Int)]) (cnd (decide (a0 >
 a1)=true) (some [tI (1:Int)]) (some [tI (0:Int)]))))) none) none) none) none:=by kernel_rfl
theorem e74 (n:Nat) (a0:Int):AM C (n+1) 74 [tI a0]=
 some [Tree.bool (a0 != a0)]:=by kernel_rfl
theorem e36 (n:Nat) (a0:List (List Tree)) (a1:List (List Tree)) (a2:Int) (a3:Int) (a4:Int) (a5:Int):AM C (n+1) 36 [Tree.sl (1:Nat) a0,Tree.sl (7:Nat) a1,tI a2,tI a3,tI a4,tI a5]=
 cnd (decide (a2<(0:Int))=true) (some [Tree.bool false]) (cnd (decide (a2≥((length a1:Nat):Int))=true) (some [Tree.bool false]) (cnd (decide (a5<(0:Int))=true) (some [Tree.bool false])
 (cnd (decide (a5>(1152921504606846976:Int))=true) (some [Tree.bool false]) (cnd ((7:Nat)=(7:Nat)∧(0:Int)≤a2) (Option.bind a1[toNat a2]? fun y6=>cnd (okI y6 0) (cnd (okI y6 1) (cnd (okI
 y6 2) (cnd (okI y6 3) (cnd (okI y6 4) (cnd (okI y6 5) (cnd (okI y6 6) (cnd (decide (a3≥gI y6 2)=true) (cnd (decide (a3<a4)=true) (some [Tree.bool (decide (a4≤gI y6 3))]) (some [Tree.bool
 false])) (some [Tree.bool false])) none) none) none) none) none) none) none) none)))):=by kernel_rfl
theorem e38 (n:Nat) (a0:List (List Tree)) (a1:Int):AM C (n+1) 38 [Tree.sl (4:Nat) a0,tI a1]=
 AO (fun (p2:List AV×Heap) (again3:_→Option (List Tree))=>cnd (decide (vI p2 1<((length a0:Nat):Int))=true) (cnd ((4:Nat)=(4:Nat)∧(0:Int)≤vI p2 1) (Option.bind
 a0[toNat (vI p2 1)]? fun y4=>cnd (okI y4 0) (cnd (okI y4 1) (cnd (okI y4 2) (cnd (okI y4 3) (cnd (((gI y4 0)==a1)=true) (cnd (AF p2 0=Fl p2 0∧((2:Nat)=(2:Nat)∨(2:Nat)=(0:Nat))
 ∧(Fw p2 0)+(A8 p2 0)≤length (oEs p2 0)∧(A8 p2 0)+(1:Nat)≤(1073741824:Nat)) (again3 ([AV.sref (0:Nat) ((Fl p2 0)+(1:Nat)) (0:Nat) ((A8 p2 0)+(1:Nat)),AV.t (tI (w64 ((vI
 p2 1)+(1:Int))))],[AA.row false ((Fl p2 0)+(1:Nat)) (2:Nat) ((take (A8 p2 0) (drop (Fw p2 0) (oEs p2 0)))++[[tI (gI y4 1),tI (gI y4 2)]])])) none) (again3 ([AV.sref (0:Nat)
 (Fl p2 0) (Fw p2 0) (A8 p2 0),AV.t (tI (w64 ((vI p2 1)+(1:Int))))],[AA.row false (AF p2 0) (2:Nat) (oEs p2 0)]))) none) none) none) none) none) (cnd ((false=true∨false=false)∧
 AF p2 0=Fl p2 0∧((2:Nat)=(2:Nat)∨(2:Nat)=(0:Nat))) (some [Tree.sl (2:Nat) (take (A8 p2 0) (drop (Fw p2 0) (oEs p2 0)))]) none)) n ([AV.sref (0:Nat) (0:Nat) (0:Nat) (0:Nat),
 AV.t (tI (0:Int))],[AA.row false (0:Nat) (2:Nat) []]):=by kernel_rfl
theorem e40 (n:Nat) (a0:List (List Tree)) (a1:Int) (a2:Int) (a3:Int) (a4:Int):AM C (n+1) 40 [Tree.sl (4:Nat) a0,tI a1,tI a2,tI a3,tI a4]=
 AO (fun (p5:List AV×Heap) (again6:_→Option (List Tree))=>cnd (decide (vI p5 0<vI p5 1)=true) (cnd ((4:Nat)=(4:Nat)∧(0:Int)≤w64 (Jj IntKind.u64 (IntKind.wrap IntKind.u64
 (w64 ((vI p5 0)+(vI p5 1)))) (1:Int))) (Option.bind a0[toNat (w64 (Jj IntKind.u64 (IntKind.wrap IntKind.u64 (w64 ((vI p5 0)+(vI p5 1)))) (1:Int)))]? fun y7=>cnd (okI y7 0) (cnd (okI y7 1)
 (cnd (okI y7 2) (cnd (okI y7 3) (Option.bind (AM C n (42:Nat) [tI (gI y7 0),tI (gI y7 1),tI (gI y7 2),tI (gI y7 3),tI a1,tI a2,tI a3,tI a4]) fun y8=>cnd (length y8=(1:Nat)) (cnd
 (okI y8 0) (cnd (decide (gI y8 0<(0:Int))=true) (again6 ([AV.t (tI (w64 ((w64 (Jj IntKind.u64 (IntKind.wrap IntKind.u64 (w64 ((vI p5 0)+(vI p5 1)))) (1:Int)))+(1:Int)))),AV.t (tI (vI p5
 1))],[])) (again6 ([AV.t (tI (vI p5 0)),AV.t (tI (w64 (Jj IntKind.u64 (IntKind.wrap IntKind.u64 (w64 ((vI p5 0)+(vI p5 1)))) (1:Int))))],[]))) none) none) none) none) none) none) none) (cnd
 (decide (vI p5 0<((length a0:Nat):Int))=true) (cnd ((4:Nat)=(4:Nat)∧(0:Int)≤vI p5 0) (Option.bind a0[toNat (vI p5 0)]? fun y9=>cnd (okI y9 0) (cnd (okI y9 1) (cnd (okI y9 2) (cnd
 (okI y9 3) (Option.bind (AM C n (42:Nat) [tI (gI y9 0),tI (gI y9 1),tI (gI y9 2),tI (gI y9 3),tI a1,tI a2,tI a3,tI a4]) fun y10=>cnd (length y10=(1:Nat)) (cnd (okI y10 0)
 (Option.bind (AM C n (1000078:Nat) [Tree.sl (4:Nat) a0]) fun y11=>cnd (length y11=(1:Nat)∧okL 4 y11 0) (cnd ((0:Nat)=(0:Nat)∧(4:Nat)=(4:Nat)∧(0:Nat)+(length (gL y11 0))=
 length (gL y11 0)∧(length (gL y11 0))+(1:Nat)≤(1073741824:Nat)∧(0:Int)≤vI p5 0∧vI p5 0≤((length (gL y11 0):Nat):Int)∧(4:Nat)≠(1:Nat)) (some [Tree.sl (4:Nat) (take
 ((length (gL y11 0))+(1:Nat)) (((take (toNat (vI p5 0)) (gL y11 0))++[[tI a1,tI a2,tI a3,tI a4]])++(drop (toNat (vI p5 0)) (gL y11 0))))]) none) none) none) none) none)
 none) none) none) none) (Option.bind (AM C n (1000078:Nat) [Tree.sl (4:Nat) a0]) fun y12=>cnd (length y12=(1:Nat)∧okL 4 y12 0) (cnd ((0:Nat)=(0:Nat)∧(4:Nat)=(4:Nat)∧(0:Nat) +
 (length (gL y12 0))=length (gL y12 0)∧(length (gL y12 0))+(1:Nat)≤(1073741824:Nat)∧(0:Int)≤vI p5 0∧vI p5 0≤((length (gL y12 0):Nat):Int)∧(4:Nat)≠(1:Nat)) (some
 [Tree.sl (4:Nat) (take ((length (gL y12 0))+(1:Nat)) (((take (toNat (vI p5 0)) (gL y12 0))++[[tI a1,tI a2,tI a3,tI a4]])++(drop (toNat (vI p5 0)) (gL y12 0))))])
 none) none))) n ([AV.t (tI (0:Int)),AV.t (tI ((length a0:Nat):Int))],[]):=by kernel_rfl
theorem e41 (n:Nat) (a0:List (List Tree)) (a1:List (List Tree)):AM C (n+1) 41 [Tree.sl (1:Nat) a0,Tree.sl (7:Nat) a1]=
 cnd (decide (((length a0:Nat):Int)<(1:Int))=true) (some [tI (4:Int)]) (cnd (decide (((length a0:Nat):Int)>(16:Int))=true) (some [tI (4:Int)]) (cnd (decide (((length a1:Nat):Int)
 > (64:Int))=true) (some [tI (4:Int)]) (AO (fun (p2:List AV×Heap) (again3:_→Option (List Tree))=>cnd (decide (vI p2 0<((length a0:Nat):Int))=true) (cnd ((1:Nat)=(1:Nat)∧
 (0:Int)≤vI p2 0) (Option.bind a0[toNat (vI p2 0)]? fun y4=>cnd (okI y4 0) (cnd (decide (gI y4 0<(0:Int))=true) (some [tI (2:Int)]) (cnd (decide (gI y4 0>(1073741824:Int))=true) (some
 [tI (2:Int)]) (again3 ([AV.t (tI (w64 ((vI p2 0)+(1:Int))))],[])))) none) none) (AO (fun (p5:List AV×Heap) (again6:_→Option (List Tree))=>cnd (decide (vI p5 0<((length
 a1:Nat):Int))=true) (cnd ((7:Nat)=(7:Nat)∧(0:Int)≤vI p5 0) (Option.bind a1[toNat (vI p5 0)]? fun y7=>cnd (okI y7 0) (cnd (okI y7 1) (cnd (okI y7 2) (cnd (okI y7 3) (cnd (okI y7 4) (cnd
 (okI y7 5) (cnd (okI y7 6) (Option.bind (AM C n (79:Nat) [tI (gI y7 0),tI (gI y7 1),tI (gI y7 2),tI (gI y7 3),tI (gI y7 4),tI (gI y7 5),tI (gI y7 6)]) fun y8=>cnd (length y8=(1:Nat))
 (cnd (okI y8 0) (cnd (((gI y8 0) != (0:Int))=true) (some [tI (gI y8 0)]) (cnd (decide (gI y7 0≥((length a0:Nat):Int))=true) (some [tI (2:Int)]) (cnd (decide (gI y7 1≥((length
 a0:Nat):Int))=true) (some [tI (2:Int)]) (cnd ((0:Int)≤vI p5 0∧vI p5 0≤((length a1:Nat):Int)) (AO (fun (p9:List AV×Heap) (again10:_→Option (List Tree))=>cnd (decide (vI p9
 0<((length (take (toNat (vI p5 0)) a1):Nat):Int))=true) (cnd ((7:Nat)=(7:Nat)∧(0:Int)≤vI p9 0) (Option.bind (take (toNat (vI p5 0)) a1)[toNat (vI p9 0)]? fun y11
 =>cnd (okI y11 0) (cnd (okI y11 1) (cnd (okI y11 2) (cnd (okI y11 3) (cnd (okI y11 4) (cnd (okI y11 5) (cnd (okI y11 6) (Option.bind (AM C n (82:Nat) [tI (gI y7 0),tI (gI y7 1),tI (gI y7 2),tI
 (gI y7 3),tI (gI y7 4),tI (gI y7 5),tI (gI y7 6),tI (gI y11 0),tI (gI y11 1),tI (gI y11 2),tI (gI y11 3),tI (gI y11 4),tI (gI y11 5),tI (gI y11 6)]) fun y12=>cnd (length y12 =
 (1:Nat)) (cnd (okB y12 0) (cnd (gB y12 0=true) (cnd (decide (vI p9 0≥(0:Int))=true) (some [tI (14:Int)]) (again6 ([AV.t (tI (w64 ((vI p5 0)+(1:Int))))],[]))) (again10 ([AV.t (tI (w64 ((vI p9
 0)+(1:Int))))],[AA.box []]))) none) none) none) none) none) none) none) none) none) none) (again6 ([AV.t (tI (w64 ((vI p5 0)+(1:Int))))],[]))) n ([AV.t (tI (0:Int))],[AA.box []])) none))))
 none) none) none) none) none) none) none) none) none) none) (some [tI (0:Int)])) n ([AV.t (tI (0:Int))],[]))) n ([AV.t (tI (0:Int))],[])))):=by kernel_rfl
theorem e42 (n:Nat) (a0:Int) (a1:Int) (a2:Int) (a3:Int) (a4:Int) (a5:Int) (a6:Int) (a7:Int):AM C (n+1) 42 [tI a0,tI a1,tI a2,tI a3,tI a4,tI a5,tI a6,tI a7]=
 Option.bind (AM C n (35:Nat) [tI a0,tI a4]) fun y8=>cnd (length y8=(1:Nat)) (cnd (okI y8 0) (Option.bind (AM C n (35:Nat) [tI a1,tI a5]) fun y9=>cnd (length y9=(1:Nat)) (cnd
 (okI y9 0) (Option.bind (AM C n (34:Nat) [Tree.sl (1:Nat) [[tI (gI y8 0)],[tI (gI y9 0)]]]) fun y10=>cnd (length y10=(1:Nat)) (cnd (okI y10 0) (some [tI (gI y10 0)]) none) none) none)
 none) none) none:=by kernel_rfl
theorem e12 (n:Nat) (a0:List (List Tree)) (a1:List (List Tree)) (a2:List (List Tree)) (a3:Int) (a4:Int) (a5:Int) (a6:Int):AM C (n+1) 12 [Tree.sl (1:Nat) a0,Tree.sl (7:Nat) a1,Tree.sl (4:Nat) a2,tI a3,tI a4,tI a5,tI a6]=
 Option.bind (AM C n (13:Nat) [Tree.sl (1:Nat) a0,Tree.sl (7:Nat) a1,Tree.sl (4:Nat) a2]) fun y7=>cnd (length y7=(1:Nat)) (cnd (okI y7 0) (cnd (((gI y7 0) != (0:Int))=true) (some
 [Tree.sl (4:Nat) [],tI (1:Int)]) (Option.bind (AM C n (36:Nat) [Tree.sl (1:Nat) a0,Tree.sl (7:Nat) a1,tI a3,tI a4,tI a5,tI a6]) fun y8=>cnd (length y8=(1:Nat)) (cnd (okB y8 0) (cnd
 ((!(gB y8 0))=true) (some [Tree.sl (4:Nat) [],tI (2:Int)]) (cnd ((((length a2:Nat):Int)==(512:Int))=true) (some [Tree.sl (4:Nat) [],tI (4:Int)]) (Option.bind (AM C n (38:Nat) [Tree.sl
 (4:Nat) a2,tI a3]) fun y9=>cnd (length y9=(1:Nat)) (cnd (okL 2 y9 0) (AO (fun (p10:List AV×Heap) (again11:_→Option (List Tree))=>cnd (decide (vI p10 0<((length (gL y9
 0):Nat):Int))=true) (cnd ((2:Nat)=(2:Nat)∧(0:Int)≤vI p10 0) (Option.bind (gL y9 0)[toNat (vI p10 0)]? fun y12=>cnd (okI y12 0) (cnd (okI y12 1) (cnd (decide (gI y12 0<a5)=true) (cnd
 (decide (a4<gI y12 1)=true) (cnd (decide (vI p10 0≥(0:Int))=true) (some [Tree.sl (4:Nat) [],tI (14:Int)]) (Option.bind (AM C n (40:Nat) [Tree.sl (4:Nat) a2,tI a3,tI a4,tI a5,tI a6])
 fun y13=>cnd (length y13=(1:Nat)) (cnd (okL 4 y13 0) (some [Tree.sl (4:Nat) (gL y13 0),tI (0:Int)]) none) none)) (again11 ([AV.t (tI (w64 ((vI p10 0)+(1:Int))))],[]))) (again11 ([AV.t (tI
 (w64 ((vI p10 0)+(1:Int))))],[]))) none) none) none) (Option.bind (AM C n (40:Nat) [Tree.sl (4:Nat) a2,tI a3,tI a4,tI a5,tI a6]) fun y14=>cnd (length y14=(1:Nat)) (cnd (okL 4 y14 0)
 (some [Tree.sl (4:Nat) (gL y14 0),tI (0:Int)]) none) none)) n ([AV.t (tI (0:Int))],[])) none) none))) none) none)) none) none:=by kernel_rfl
theorem e13 (n:Nat) (a0:List (List Tree)) (a1:List (List Tree)) (a2:List (List Tree)):AM C (n+1) 13 [Tree.sl (1:Nat) a0,Tree.sl (7:Nat) a1,Tree.sl (4:Nat) a2]=
 Option.bind (AM C n (41:Nat) [Tree.sl (1:Nat) a0,Tree.sl (7:Nat) a1]) fun y3=>cnd (length y3=(1:Nat)) (cnd (okI y3 0) (cnd (((gI y3 0) != (0:Int))=true) (some [tI (1:Int)]) (cnd (decide
 (((length a2:Nat):Int)>(512:Int))=true) (some [tI (4:Int)]) (AO (fun (p4:List AV×Heap) (again5:_→Option (List Tree))=>cnd (decide (vI p4 0<((length a2:Nat):Int))=
 true) (cnd ((4:Nat)=(4:Nat)∧(0:Int)≤vI p4 0) (Option.bind a2[toNat (vI p4 0)]? fun y6=>cnd (okI y6 0) (cnd (okI y6 1) (cnd (okI y6 2) (cnd (okI y6 3) (Option.bind (AM C n (36:Nat)
 [Tree.sl (1:Nat) a0,Tree.sl (7:Nat) a1,tI (gI y6 0),tI (gI y6 1),tI (gI y6 2),tI (gI y6 3)]) fun y7=>cnd (length y7=(1:Nat)) (cnd (okB y7 0) (cnd ((!(gB y7 0))=true) (some [tI
 (2:Int)]) (cnd (((vI p4 0)==(0:Int))=true) (again5 ([AV.t (tI (w64 ((vI p4 0)+(1:Int))))],[])) (cnd ((4:Nat)=(4:Nat)∧(0:Int)≤w64 ((vI p4 0)-(1:Int))) (Option.bind a2[toNat (w64 ((vI
 p4 0)-(1:Int)))]? fun y8=>cnd (okI y8 0) (cnd (okI y8 1) (cnd (okI y8 2) (cnd (okI y8 3) (Option.bind (AM C n (42:Nat) [tI (gI y8 0),tI (gI y8 1),tI (gI y8 2),tI (gI y8 3),tI (gI y6 0),tI
 (gI y6 1),tI (gI y6 2),tI (gI y6 3)]) fun y9=>cnd (length y9=(1:Nat)) (cnd (okI y9 0) (cnd (decide (gI y9 0≥(0:Int))=true) (some [tI (9:Int)]) (cnd ((4:Nat)=(4:Nat)∧(0:Int)≤w64
 ((vI p4 0)-(1:Int))) (Option.bind a2[toNat (w64 ((vI p4 0)-(1:Int)))]? fun y10=>cnd (okI y10 0) (cnd (((gI y10 0)==(gI y6 0))=true) (cnd ((4:Nat)=(4:Nat)∧(0:Int)≤w64 ((vI p4 0) -
 (1:Int))) (Option.bind a2[toNat (w64 ((vI p4 0)-(1:Int)))]? fun y11=>cnd (okI y11 2) (cnd (decide (gI y6 1<gI y11 2)=true) (some [tI (14:Int)]) (again5 ([AV.t (tI (w64 ((vI p4 0) +
 (1:Int))))],[]))) none) none) (again5 ([AV.t (tI (w64 ((vI p4 0)+(1:Int))))],[]))) none) none)) none) none) none) none) none) none) none))) none) none) none) none) none) none) none) (some [tI
 (0:Int)])) n ([AV.t (tI (0:Int))],[])))) none) none:=by kernel_rfl
theorem e79 (n:Nat) (a0:Int) (a1:Int) (a2:Int) (a3:Int) (a4:Int) (a5:Int) (a6:Int):AM C (n+1) 79 [tI a0,tI a1,tI a2,tI a3,tI a4,tI a5,tI a6]=
 Option.bind (AM C n (139:Nat) [tI a0,tI (0:Int),tI (15:Int)]) fun y7=>cnd (length y7=(1:Nat)) (cnd (okB y7 0) (cnd ((!(gB y7 0))=true) (some [tI (2:Int)]) (Option.bind (AM C n
 (139:Nat) [tI a1,tI (0:Int),tI (15:Int)]) fun y8=>cnd (length y8=(1:Nat)) (cnd (okB y8 0) (cnd ((!(gB y8 0))=true) (some [tI (2:Int)]) (Option.bind (AM C n (139:Nat) [tI a4,tI
 (1:Int),tI (1000:Int)]) fun y9=>cnd (length y9=(1:Nat)) (cnd (okB y9 0) (cnd ((!(gB y9 0))=true) (some [tI (2:Int)]) (Option.bind (AM C n (139:Nat) [tI a5,tI (1:Int),tI
 (1048576:Int)]) fun y10=>cnd (length y10=(1:Nat)) (cnd (okB y10 0) (cnd ((!(gB y10 0))=true) (some [tI (2:Int)]) (Option.bind (AM C n (139:Nat) [tI a6,tI (0:Int),tI (16:Int)]) fun y11
 =>cnd (length y11=(1:Nat)) (cnd (okB y11 0) (cnd ((!(gB y11 0))=true) (some [tI (2:Int)]) (cnd ((a0==a1)=true) (some [tI (1:Int)]) (cnd (decide (a2<(0:Int))=true) (some [tI (2:Int)])
 (cnd (decide (a2≥a3)=true) (some [tI (2:Int)]) (cnd (decide (a3>w64 ((1099511627776:Int)-(w64 ((2:Int)*a5))))=true) (some [tI (2:Int)]) (some [tI (0:Int)])))))) none) none)) none) none))
 none) none)) none) none)) none) none:=by kernel_rfl
theorem e82 (n:Nat) (a0:Int) (a1:Int) (a2:Int) (a3:Int) (a4:Int) (a5:Int) (a6:Int) (a7:Int) (a8:Int) (a9:Int) (a10:Int) (a11:Int) (a12:Int) (a13:Int):AM C (n+1) 82 [tI a0,tI a1,tI a2,tI a3,tI a4,tI a5,tI a6,tI a7,tI a8,tI a9,tI a10,tI a11,tI a12,tI a13]=
 Option.bind (AM C n (79:Nat) [tI a0,tI a1,tI a2,tI a3,tI a4,tI a5,tI a6]) fun y14=>cnd (length y14=(1:Nat)) (cnd (okI y14 0) (cnd (((gI y14 0) != (0:Int))=true) (some [Tree.bool
 false]) (Option.bind (AM C n (79:Nat) [tI a7,tI a8,tI a9,tI a10,tI a11,tI a12,tI a13]) fun y15=>cnd (length y15=(1:Nat)) (cnd (okI y15 0) (cnd (((gI y15 0) != (0:Int))=true) (some
 [Tree.bool false]) (cnd ((a0 != a7)=true) (some [Tree.bool false]) (cnd ((a1 != a8)=true) (some [Tree.bool false]) (some [Tree.bool (decide ((if a9>a2 then a9 else a2)<(if a10<a3 then a10
 else a3)))])))) none) none)) none) none:=by kernel_rfl
theorem e83 (n:Nat) (a0:List (List Tree)) (a1:List (List Tree)) (a2:List (List Tree)) (a3:Int):AM C (n+1) 83 [Tree.sl (1:Nat) a0,Tree.sl (7:Nat) a1,Tree.sl (4:Nat) a2,tI a3]=
 Option.bind (AM C n (141:Nat) [Tree.sl (1:Nat) a0,Tree.sl (7:Nat) a1,Tree.sl (4:Nat) a2,tI a3]) fun y4=>cnd (length y4=(1:Nat)) (cnd (okI y4 0) (cnd (((gI y4 0) != (0:Int))=true)
 (some [Tree.sl (2:Nat) [],tI (gI y4 0)]) (cnd ((7:Nat)=(7:Nat)∧(0:Int)≤a3) (Option.bind a1[toNat a3]? fun y5=>cnd (okI y5 2) (Option.bind (AM C n (142:Nat) [Tree.sl (1:Nat) a0,Tree.sl
 (7:Nat) a1,Tree.sl (4:Nat) a2,tI a3,tI (gI y5 2)]) fun y6=>cnd (length y6=(1:Nat)) (cnd (okL 2 y6 0) (some [Tree.sl (2:Nat) (gL y6 0),tI (0:Int)]) none) none) none) none)) none) none:=by kernel_rfl
theorem e84 (n:Nat) (a0:Int) (a1:Int) (a2:Int) (a3:Int) (a4:Int) (a5:Int) (a6:Int) (a7:Int):AM C (n+1) 84 [tI a0,tI a1,tI a2,tI a3,tI a4,tI a5,tI a6,tI a7]=
 Option.bind (AM C n (143:Nat) [tI a0,tI a1,tI a2,tI a3,tI a4,tI a5,tI a6,tI a7]) fun y8=>cnd (length y8=(1:Nat)) (cnd (okI y8 0) (cnd (((gI y8 0) != (0:Int))=true) (some [tI
 (0:Int),tI (gI y8 0)]) (Option.bind (AM C n (144:Nat) [tI a0,tI a1,tI a2,tI a3,tI a4,tI a5,tI a6,tI a7]) fun y9=>cnd (length y9=(1:Nat)) (cnd (okI y9 0) (some [tI (gI y9 0),tI
 (0:Int)]) none) none)) none) none:=by kernel_rfl
theorem e139 (n:Nat) (a0:Int) (a1:Int) (a2:Int):AM C (n+1) 139 [tI a0,tI a1,tI a2]=
 cnd (decide (a0≥a1)=true) (some [Tree.bool (decide (a0≤a2))]) (some [Tree.bool false]):=by kernel_rfl
theorem e141 (n:Nat) (a0:List (List Tree)) (a1:List (List Tree)) (a2:List (List Tree)) (a3:Int):AM C (n+1) 141 [Tree.sl (1:Nat) a0,Tree.sl (7:Nat) a1,Tree.sl (4:Nat) a2,tI a3]=
 Option.bind (AM C n (13:Nat) [Tree.sl (1:Nat) a0,Tree.sl (7:Nat) a1,Tree.sl (4:Nat) a2]) fun y4=>cnd (length y4=(1:Nat)) (cnd (okI y4 0) (cnd (((gI y4 0) != (0:Int))=true) (some [tI
 (1:Int)]) (cnd (decide (a3<(0:Int))=true) (some [tI (2:Int)]) (cnd (decide (a3≥((length a1:Nat):Int))=true) (some [tI (2:Int)]) (some [tI (0:Int)])))) none) none:=by kernel_rfl
theorem e142 (n:Nat) (a0:List (List Tree)) (a1:List (List Tree)) (a2:List (List Tree)) (a3:Int) (a4:Int):AM C (n+1) 142 [Tree.sl (1:Nat) a0,Tree.sl (7:Nat) a1,Tree.sl (4:Nat) a2,tI a3,tI a4]=
 cnd ((7:Nat)=(7:Nat)∧(0:Int)≤a3) (Option.bind a1[toNat a3]? fun y5=>cnd (okI y5 0) (cnd (okI y5 1) (cnd (okI y5 2) (cnd (okI y5 3) (cnd (okI y5 4) (cnd (okI y5 5) (cnd (okI y5 6)
 (Option.bind (AM C n (38:Nat) [Tree.sl (4:Nat) a2,tI a3]) fun y6=>cnd (length y6=(1:Nat)) (cnd (okL 2 y6 0) (AO (fun (p7:List AV×Heap) (again8:_→Option (List Tree))=>cnd
 (decide (vI p7 0<((length (gL y6 0):Nat):Int))=true) (cnd ((2:Nat)=(2:Nat)∧(0:Int)≤vI p7 0) (Option.bind (gL y6 0)[toNat (vI p7 0)]? fun y9=>cnd (okI y9 0) (cnd (okI y9 1) (cnd
 (decide (cI p7 3 0<gI y9 0)=true) (cnd (AF p7 1=AD p7 2 0∧((2:Nat)=(2:Nat)∨(2:Nat)=(0:Nat))∧(AE p7 2 0)+(AB p7 2 0)≤length (oEs p7 1)∧(AB p7 2 0)+(1:Nat)≤
 (1073741824:Nat)) (again8 ([AV.t (tI (w64 ((vI p7 0)+(1:Int))))],[AA.box [],AA.row false ((AD p7 2 0)+(1:Nat)) (2:Nat) ((take (AB p7 2 0) (drop (AE p7 2 0) (oEs p7 1))) ++
 [[tI (cI p7 3 0),tI (gI y9 0)]]),AA.box [AV.sref (1:Nat) ((AD p7 2 0)+(1:Nat)) (0:Nat) ((AB p7 2 0)+(1:Nat))],AA.box [AV.t (tI (if gI y9 1>cI p7 3 0 then gI y9 1 else cI p7 3 0))]]))
 none) (again8 ([AV.t (tI (w64 ((vI p7 0)+(1:Int))))],[AA.box [],AA.row false (AF p7 1) (2:Nat) (oEs p7 1),AA.box [AV.sref (1:Nat) (AD p7 2 0) (AE p7 2 0) (AB p7 2 0)],AA.box
 [AV.t (tI (if gI y9 1>cI p7 3 0 then gI y9 1 else cI p7 3 0))]]))) none) none) none) (cnd (decide (cI p7 3 0<gI y5 3)=true) (cnd (AF p7 1=AD p7 2 0∧((2:Nat)=(2:Nat)∨(2:Nat)=
 (0:Nat))∧(AE p7 2 0)+(AB p7 2 0)≤length (oEs p7 1)∧(AB p7 2 0)+(1:Nat)≤(1073741824:Nat)) (cnd ((false=true∨false=false)∧(AD p7 2 0)+(1:Nat)=(AD p7 2 0)+(1:Nat)
 ∧((2:Nat)=(2:Nat)∨(2:Nat)=(0:Nat))) (some [Tree.sl (2:Nat) (take ((AB p7 2 0)+(1:Nat)) ((take (AB p7 2 0) (drop (AE p7 2 0) (oEs p7 1)))++[[tI (cI p7 3 0),tI (gI y5
 3)]]))]) none) none) (cnd ((false=true∨false=false)∧AF p7 1=AD p7 2 0∧((2:Nat)=(2:Nat)∨(2:Nat)=(0:Nat))) (some [Tree.sl (2:Nat) (take (AB p7 2 0) (drop (AE p7 2 0)
 (oEs p7 1)))]) none))) n ([AV.t (tI (0:Int))],[AA.box [],AA.row false (0:Nat) (2:Nat) [],AA.box [AV.sref (1:Nat) (0:Nat) (0:Nat) (0:Nat)],AA.box [AV.t (tI (if a4>gI y5 2 then a4 else gI
 y5 2))]])) none) none) none) none) none) none) none) none) none) none:=by kernel_rfl
theorem e143 (n:Nat) (a0:Int) (a1:Int) (a2:Int) (a3:Int) (a4:Int) (a5:Int) (a6:Int) (a7:Int):AM C (n+1) 143 [tI a0,tI a1,tI a2,tI a3,tI a4,tI a5,tI a6,tI a7]=
 Option.bind (AM C n (79:Nat) [tI a0,tI a1,tI a2,tI a3,tI a4,tI a5,tI a6]) fun y8=>cnd (length y8=(1:Nat)) (cnd (okI y8 0) (cnd (((gI y8 0) != (0:Int))=true) (some [tI (1:Int)])
 (Option.bind (AM C n (139:Nat) [tI a7,tI (1:Int),tI (65536:Int)]) fun y9=>cnd (length y9=(1:Nat)) (cnd (okB y9 0) (cnd ((!(gB y9 0))=true) (some [tI (2:Int)]) (some [tI (0:Int)]))
 none) none)) none) none:=by kernel_rfl
theorem e144 (n:Nat) (a0:Int) (a1:Int) (a2:Int) (a3:Int) (a4:Int) (a5:Int) (a6:Int) (a7:Int):AM C (n+1) 144 [tI a0,tI a1,tI a2,tI a3,tI a4,tI a5,tI a6,tI a7]=
 Option.bind (AM C n (184:Nat) [tI a0,tI a1,tI a2,tI a3,tI a4,tI a5,tI a6,tI a7]) fun y8=>cnd (length y8=(1:Nat)) (cnd (okI y8 0) (Option.bind (AM C n (185:Nat) [tI a0,tI a1,tI
 a2,tI a3,tI a4,tI a5,tI a6,tI (16:Int)]) fun y9=>cnd (length y9=(1:Nat)) (cnd (okI y9 0) (some [tI (w64 ((gI y8 0)+(w64 (a6*(w64 ((w64 ((w64 ((2:Int)*a5))+(1:Int)))+(gI y9
 0)))))))]) none) none) none) none:=by kernel_rfl
theorem e184 (n:Nat) (a0:Int) (a1:Int) (a2:Int) (a3:Int) (a4:Int) (a5:Int) (a6:Int) (a7:Int):AM C (n+1) 184 [tI a0,tI a1,tI a2,tI a3,tI a4,tI a5,tI a6,tI a7]=
 AO (fun (p8:List AV×Heap) (again9:_→Option (List Tree))=>cnd (decide (vI p8 0>(0:Int))=true) (Option.bind (AM C n (185:Nat) [tI a0,tI a1,tI a2,tI a3,tI a4,tI a5,tI a6,tI
 (if (16:Int)<vI p8 0 then (16:Int) else vI p8 0)]) fun y10=>cnd (length y10=(1:Nat)) (cnd (okI y10 0) (again9 ([AV.t (tI (w64 ((vI p8 0)-(16:Int))))],[AA.box [AV.t (tI (w64 ((cI p8 0
 0)+(gI y10 0))))],AA.box []])) none) none) (some [tI (cI p8 0 0)])) n ([AV.t (tI a7)],[AA.box [AV.t (tI (0:Int))],AA.box []]):=by kernel_rfl
theorem e185 (n:Nat) (a0:Int) (a1:Int) (a2:Int) (a3:Int) (a4:Int) (a5:Int) (a6:Int) (a7:Int):AM C (n+1) 185 [tI a0,tI a1,tI a2,tI a3,tI a4,tI a5,tI a6,tI a7]=
 cnd (a4=(0:Int)) none (some [tI (w64 (Int.tdiv (w64 ((w64 ((w64 (a7+(8:Int)))+a4))-(1:Int))) a4))]):=by kernel_rfl
theorem e197 (n:Nat) (a0:Int) (a1:Int) (a2:Int) (a3:Int) (a4:Int) (a5:Int) (a6:Int) (a7:Int) (a8:Int):AM C (n+1) 197 [tI a0,tI a1,tI a2,tI a3,tI a4,tI a5,tI a6,tI a7,tI a8]=
 cnd (decide (a7≥a2)=true) (Option.bind (AM C n (144:Nat) [tI a0,tI a1,tI a2,tI a3,tI a4,tI a5,tI a6,tI a8]) fun y9=>cnd (length y9=(1:Nat)) (cnd (okI y9 0) (some [Tree.bool
 (decide (a7≤w64 (a3-(gI y9 0))))]) none) none) (some [Tree.bool false]):=by kernel_rfl
theorem e15 (n:Nat) (a0:List (List Tree)) (a1:List (List Tree)):AM C (n+1) 15 [Tree.sl (1:Nat) a0,Tree.sl (7:Nat) a1]=
 cnd (decide (((length a0:Nat):Int)<(1:Int))=true) (some [tI (4:Int)]) (cnd (decide (((length a0:Nat):Int)>(16:Int))=true) (some [tI (4:Int)]) (cnd (decide (((length a1:Nat):Int)
 > (64:Int))=true) (some [tI (4:Int)]) (AO (fun (p2:List AV×Heap) (again3:_→Option (List Tree))=>cnd (decide (vI p2 0<((length a0:Nat):Int))=true) (cnd ((1:Nat)=(1:Nat)∧
 (0:Int)≤vI p2 0) (Option.bind a0[toNat (vI p2 0)]? fun y4=>cnd (okI y4 0) (cnd (decide (gI y4 0<(0:Int))=true) (some [tI (2:Int)]) (cnd ((1:Nat)=(1:Nat)∧(0:Int)≤vI p2 0) (Option.bind
 a0[toNat (vI p2 0)]? fun y5=>cnd (okI y5 0) (cnd (decide (gI y5 0>(1073741824:Int))=true) (some [tI (2:Int)]) (again3 ([AV.t (tI (w64 ((vI p2 0)+(1:Int))))],[]))) none) none)) none) none)
 (AO (fun (p6:List AV×Heap) (again7:_→Option (List Tree))=>cnd (decide (vI p6 0<((length a1:Nat):Int))=true) (cnd ((7:Nat)=(7:Nat)∧(0:Int)≤vI p6 0) (Option.bind
 a1[toNat (vI p6 0)]? fun y8=>cnd (okI y8 0) (cnd (okI y8 1) (cnd (okI y8 2) (cnd (okI y8 3) (cnd (okI y8 4) (cnd (okI y8 5) (cnd (okI y8 6) (Option.bind (AM C n (43:Nat) [tI (gI y8 0),tI (gI
 y8 1),tI (gI y8 2),tI (gI y8 3),tI (gI y8 4),tI (gI y8 5),tI (gI y8 6)]) fun y9=>cnd (length y9=(1:Nat)) (cnd (okI y9 0) (cnd (((gI y9 0) != (0:Int))=true) (some [tI (gI y9 0)]) (cnd
 (decide (gI y8 0≥((length a0:Nat):Int))=true) (some [tI (2:Int)]) (cnd (decide (gI y8 1≥((length a0:Nat):Int))=true) (some [tI (2:Int)]) (AO (fun (p10:List AV×Heap)
 (again11:_→Option (List Tree))=>cnd (decide (vI p10 0<vI p6 0)=true) (cnd ((7:Nat)=(7:Nat)∧(0:Int)≤vI p10 0) (Option.bind a1[toNat (vI p10 0)]? fun y12=>cnd (okI y12 0) (cnd (okI
 y12 1) (cnd (okI y12 2) (cnd (okI y12 3) (cnd (okI y12 4) (cnd (okI y12 5) (cnd (okI y12 6) (Option.bind (AM C n (44:Nat) [tI (gI y12 0),tI (gI y12 1),tI (gI y12 2),tI (gI y12 3),tI (gI y12 4),
 tI (gI y12 5),tI (gI y12 6),tI (gI y8 0),tI (gI y8 1),tI (gI y8 2),tI (gI y8 3),tI (gI y8 4),tI (gI y8 5),tI (gI y8 6)]) fun y13=>cnd (length y13=(1:Nat)) (cnd (okB y13 0) (cnd (gB
 y13 0=true) (some [tI (14:Int)]) (again11 ([AV.t (tI (w64 ((vI p10 0)+(1:Int))))],[AA.box []]))) none) none) none) none) none) none) none) none) none) none) (again7 ([AV.t (tI (w64 ((vI p6 0) +
 (1:Int))))],[]))) n ([AV.t (tI (0:Int))],[AA.box []]))))) none) none) none) none) none) none) none) none) none) none) (some [tI (0:Int)])) n ([AV.t (tI (0:Int))],[]))) n ([AV.t (tI (0:Int))],
 [])))):=by kernel_rfl
theorem e43 (n:Nat) (a0:Int) (a1:Int) (a2:Int) (a3:Int) (a4:Int) (a5:Int) (a6:Int):AM C (n+1) 43 [tI a0,tI a1,tI a2,tI a3,tI a4,tI a5,tI a6]=
 cnd (decide (a0<(0:Int))=true) (some [tI (2:Int)]) (cnd (decide (a0≥(16:Int))=true) (some [tI (2:Int)]) (cnd (decide (a1<(0:Int))=true) (some [tI (2:Int)]) (cnd (decide (a1≥(16:Int))=
 true) (some [tI (2:Int)]) (cnd (decide (a4<(1:Int))=true) (some [tI (2:Int)]) (cnd (decide (a4>(1000:Int))=true) (some [tI (2:Int)]) (cnd (decide (a5<(1:Int))=true) (some [tI (2:Int)])
 (cnd (decide (a5>(1048576:Int))=true) (some [tI (2:Int)]) (cnd (decide (a6<(0:Int))=true) (some [tI (2:Int)]) (cnd (decide (a6>(16:Int))=true) (some [tI (2:Int)]) (cnd ((a0==a1)=true)
 (some [tI (1:Int)]) (cnd (decide (a2<(0:Int))=true) (some [tI (2:Int)]) (cnd (decide (a2≥a3)=true) (some [tI (2:Int)]) (cnd (decide (a3>w64 ((1099511627776:Int)-(w64 ((2:Int)*a5))))=
 true) (some [tI (2:Int)]) (some [tI (0:Int)])))))))))))))):=by kernel_rfl
theorem e44 (n:Nat) (a0:Int) (a1:Int) (a2:Int) (a3:Int) (a4:Int) (a5:Int) (a6:Int) (a7:Int) (a8:Int) (a9:Int) (a10:Int) (a11:Int) (a12:Int) (a13:Int):AM C (n+1) 44 [tI a0,tI a1,tI a2,tI a3,tI a4,tI a5,tI a6,tI a7,tI a8,tI a9,tI a10,tI a11,tI a12,tI a13]=
 Option.bind (AM C n (43:Nat) [tI a0,tI a1,tI a2,tI a3,tI a4,tI a5,tI a6]) fun y14=>cnd (length y14=(1:Nat)) (cnd (okI y14 0) (cnd (((gI y14 0)==(0:Int))=true) (Option.bind (AM
 C n (43:Nat) [tI a7,tI a8,tI a9,tI a10,tI a11,tI a12,tI a13]) fun y15=>cnd (length y15=(1:Nat)) (cnd (okI y15 0) (cnd (((gI y15 0)==(0:Int))=true) (cnd ((a0==a7)=true) (cnd ((a1
 == a8)=true) (cnd (decide (a2<a10)=true) (some [Tree.bool (decide (a9<a3))]) (some [Tree.bool false])) (some [Tree.bool false])) (some [Tree.bool false])) (some [Tree.bool false])) none) none)
 (some [Tree.bool false])) none) none:=by kernel_rfl
theorem e56 (n:Nat) (a0:List (List Tree)) (a1:List (List Tree)):AM C (n+1) 56 [Tree.sl (1:Nat) a0,Tree.sl (7:Nat) a1]=
 cnd (decide (((length a0:Nat):Int)>(6:Int))=true) (some [Tree.bool true]) (some [Tree.bool (decide (((length a1:Nat):Int)>(10:Int)))]):=by kernel_rfl
theorem e57 (n:Nat) (a0:List (List Tree)) (a1:List (List Tree)) (a2:List (List Tree)):AM C (n+1) 57 [Tree.sl (1:Nat) a0,Tree.sl (7:Nat) a1,Tree.sl (4:Nat) a2]=
 Option.bind (AM C n (15:Nat) [Tree.sl (1:Nat) a0,Tree.sl (7:Nat) a1]) fun y3=>cnd (length y3=(1:Nat)) (cnd (okI y3 0) (cnd (((gI y3 0) != (0:Int))=true) (some [tI (1:Int)]) (cnd (decide
 (((length a2:Nat):Int)>(512:Int))=true) (some [tI (4:Int)]) (AO (fun (p4:List AV×Heap) (again5:_→Option (List Tree))=>cnd (decide (vI p4 0<((length a2:Nat):Int))=
 true) (cnd ((4:Nat)=(4:Nat)∧(0:Int)≤vI p4 0) (Option.bind a2[toNat (vI p4 0)]? fun y6=>cnd (okI y6 0) (cnd (okI y6 1) (cnd (okI y6 2) (cnd (okI y6 3) (Option.bind (AM C n (108:Nat)
 [Tree.sl (1:Nat) a0,Tree.sl (7:Nat) a1,tI (gI y6 0),tI (gI y6 1),tI (gI y6 2),tI (gI y6 3)]) fun y7=>cnd (length y7=(1:Nat)) (cnd (okB y7 0) (cnd ((!(gB y7 0))=true) (some [tI
 (2:Int)]) (cnd (((vI p4 0)==(0:Int))=true) (again5 ([AV.t (tI (w64 ((vI p4 0)+(1:Int))))],[])) (cnd ((4:Nat)=(4:Nat)∧(0:Int)≤vI p4 0) (Option.bind a2[toNat (vI p4 0)]? fun y8=>cnd
 (okI y8 0) (cnd ((4:Nat)=(4:Nat)∧(0:Int)≤w64 ((vI p4 0)-(1:Int))) (Option.bind a2[toNat (w64 ((vI p4 0)-(1:Int)))]? fun y9=>cnd (okI y9 0) (cnd (decide (gI y8 0>gI y9 0)=true)
 (again5 ([AV.t (tI (w64 ((vI p4 0)+(1:Int))))],[])) (cnd ((4:Nat)=(4:Nat)∧(0:Int)≤vI p4 0) (Option.bind a2[toNat (vI p4 0)]? fun y10=>cnd (okI y10 0) (cnd ((4:Nat)=(4:Nat)∧(0:Int)≤
 w64 ((vI p4 0)-(1:Int))) (Option.bind a2[toNat (w64 ((vI p4 0)-(1:Int)))]? fun y11=>cnd (okI y11 0) (cnd (decide (gI y10 0<gI y11 0)=true) (some [tI (9:Int)]) (cnd ((4:Nat)=(4:Nat)∧
 (0:Int)≤vI p4 0) (Option.bind a2[toNat (vI p4 0)]? fun y12=>cnd (okI y12 1) (cnd ((4:Nat)=(4:Nat)∧(0:Int)≤w64 ((vI p4 0)-(1:Int))) (Option.bind a2[toNat (w64 ((vI p4 0) -
 (1:Int)))]? fun y13=>cnd (okI y13 1) (cnd (decide (gI y12 1≤gI y13 1)=true) (some [tI (9:Int)]) (cnd ((4:Nat)=(4:Nat)∧(0:Int)≤vI p4 0) (Option.bind a2[toNat (vI p4 0)]? fun y14=>cnd
 (okI y14 1) (cnd ((4:Nat)=(4:Nat)∧(0:Int)≤w64 ((vI p4 0)-(1:Int))) (Option.bind a2[toNat (w64 ((vI p4 0)-(1:Int)))]? fun y15=>cnd (okI y15 2) (cnd (decide (gI y14 1<gI y15 2)=true)
 (some [tI (14:Int)]) (again5 ([AV.t (tI (w64 ((vI p4 0)+(1:Int))))],[]))) none) none) none) none)) none) none) none) none)) none) none) none) none)) none) none) none) none))) none) none) none)
 none) none) none) none) (some [tI (0:Int)])) n ([AV.t (tI (0:Int))],[])))) none) none:=by kernel_rfl
theorem e108 (n:Nat) (a0:List (List Tree)) (a1:List (List Tree)) (a2:Int) (a3:Int) (a4:Int) (a5:Int):AM C (n+1) 108 [Tree.sl (1:Nat) a0,Tree.sl (7:Nat) a1,tI a2,tI a3,tI a4,tI a5]=
 cnd (decide (a2<(0:Int))=true) (some [Tree.bool false]) (cnd (decide (a2≥((length a1:Nat):Int))=true) (some [Tree.bool false]) (cnd (decide (a5<(0:Int))=true) (some [Tree.bool false])
 (cnd (decide (a5>(1152921504606846976:Int))=true) (some [Tree.bool false]) (cnd ((7:Nat)=(7:Nat)∧(0:Int)≤a2) (Option.bind a1[toNat a2]? fun y6=>cnd (okI y6 0) (cnd (okI y6 1) (cnd (okI
 y6 2) (cnd (okI y6 3) (cnd (okI y6 4) (cnd (okI y6 5) (cnd (okI y6 6) (cnd (decide (gI y6 2≤a3)=true) (cnd (decide (a3<a4)=true) (some [Tree.bool (decide (a4≤gI y6 3))]) (some [Tree.bool
 false])) (some [Tree.bool false])) none) none) none) none) none) none) none) none)))):=by kernel_rfl
theorem Tt (n:Nat) (a0:List (List Tree)):AM C (n+1) 1000078 [Tree.sl (4:Nat) a0]=
 cnd (length a0≠(0:Nat)) (cnd (length a0≤(1073741824:Nat)) (some [Tree.sl (4:Nat) (take (length a0) a0)]) none) (both (some [Tree.sl (4:Nat) []]) (cnd (length a0≤
 (1073741824:Nat)) (some [Tree.sl (4:Nat) (take (length a0) a0)]) none)):=by kernel_rfl
theorem Tu (n:Nat) (a0:List (List Tree)):AM C (n+1) 1000014 [Tree.sl (7:Nat) a0]=
 cnd (length a0≠(0:Nat)) (cnd (length a0≤(1073741824:Nat)) (some [Tree.sl (7:Nat) (take (length a0) a0)]) none) (both (some [Tree.sl (7:Nat) []]) (cnd (length a0≤
 (1073741824:Nat)) (some [Tree.sl (7:Nat) (take (length a0) a0)]) none)):=by kernel_rfl
end Ab
namespace Ab
open Go
variable {R S α σ Q:Type}
theorem wrapU64 (x:Int):IntKind.wrap .u64 x=x % 18446744073709551616:=by simp only [IntKind.wrap,IntKind.signed,IntKind.bits];simp
theorem halfU (a b:Nat) (h:a+b<4611686018427387904):w64 (Jj .u64 (IntKind.wrap .u64 (w64 ((a:Int)+(b:Int)))) 1)=(((a+b) / 2:Nat):Int):=by
 have e1:IntKind.wrap .u64 (w64 ((a:Int)+(b:Int)))=((a+b:Nat):Int):=by rw [A6 (by omega) (by omega),wrapU64];omega
 have e2:Jj .u64 ((a+b:Nat):Int) 1=(((a+b) / 2:Nat):Int):=by show Int.fdiv ((a+b:Nat):Int) (2 ^ min (toNat 1) (IntKind.bits .u64))=_;rw [show (2:Int) ^ min (toNat 1) (IntKind.bits .u64)=2 from rfl,Int.fdiv_eq_ediv_of_nonneg _ (by omega)];omega
 rw [e1,e2,A6 (by omega) (by omega)]
def Ec (lt:α→Bool) (l:List α) (fin:Nat→Q) (s:Nat×Nat):Rd (Nat×Nat) Q:=
 if s.1<s.2 then match l[(s.1+s.2) / 2]? with
  |some x=>if lt x=true then .next ((s.1+s.2) / 2+1,s.2) else .next (s.1,(s.1+s.2) / 2)
  |none =>.next (s.2,s.2)
 else .done (fin s.1)
def BsInv (lt:α→Bool) (l:List α) (s:Nat×Nat):Prop:=s.1≤s.2∧s.2≤l.length∧(∀(j:Nat) x,j<s.1→l[j]? = some x→lt x=true)∧∀(j:Nat) x,s.2≤j→l[j]? = some x→lt x=false
theorem MV {lt:α→Bool} {l:List α} {k:Nat} (hk:k≤l.length) (h1:∀(j:Nat) x,j<k→l[j]? = some x→lt x=true) (h2:∀(j:Nat) x,k≤j→l[j]? = some x→lt x=false):k=l.countP lt:=by
 conv=>rhs;rw [← List.take_append_drop k l]
 rw [List.countP_append,List.countP_eq_length.2,List.countP_eq_zero.2]
 ·simp;omega
 ·intro x hx;obtain ⟨j,hj⟩:=mem_iff_getElem?.1 hx;rw [getElem?_drop] at hj;simp [h2 _ _ (by omega) hj]
 ·intro x hx;obtain ⟨j,hj⟩:=mem_iff_getElem?.1 hx;have hjk:j<k:=by have:=AN hj;simp at this;omega
  rw [getElem?_take_of_lt hjk] at hj;exact h1 _ _ hjk hj
def Down (lt:α→Bool) (l:List α):Prop:=∀(i j:Nat) x y,i≤j→l[i]? = some x→l[j]? = some y→lt y=true→lt x=true
theorem UM {Z:Type} {B:Nat→Z→S→(S→Option R)→Option R} {s:S} (out:Z→Q→Option R) (lt:α→Bool) (l:List α) (fin:Nat→Q) (st:Nat×Nat→S) (hd:Down lt l) (hs:s=st (0,l.length))
  (hstep:∀s,s.1≤s.2→s.2≤l.length→(¬s.1<s.2→s.1=l.countP lt)→Ev fun n=>∀z again,B n z (st s) again=(Ec lt l fin s).go (fun s'=>again (st s')) (out z)) :
  Ev fun n=>∀z,AO (B n z) n s=out z (fin (l.countP lt)):=by
 refine JN (r:=fin (l.countP lt)) out st (Ec lt l fin) (BsInv lt l) (fun s=>s.2-s.1) (fun _=>fin (l.countP lt)) (0,l.length) hs ⟨by simp,by simp,fun j x h=>by simp at h,fun j x h hx=>by have:=AN hx;simp at h;omega⟩ rfl
  (fun s hI=>hstep s hI.1 hI.2.1 fun hn => ?_) (fun s s' hI hs' => ?_) (fun s hI => ?_)
 ·obtain ⟨a,b⟩:=s;obtain ⟨i1,i2,i3,i4⟩:=hI;simp only at i1 i2 i3 i4 hn ⊢;obtain rfl:a=b:=by omega
  exact MV i2 i3 i4
 ·obtain ⟨a,b⟩:=s;obtain ⟨i1,i2,i3,i4⟩:=hI;simp only at i1 i2 i3 i4;unfold Ec at hs';simp only at hs';split at hs'
  ·rename_i hab;split at hs'
   ·rename_i x hx;split at hs'
    ·rename_i hxe;cases hs';refine ⟨⟨by simp only;omega,i2,fun j y hj hy => ?_,i4⟩,by simp only;omega⟩;simp only at hj;exact hd j ((a+b) / 2) y x (by omega) hy hx hxe
    ·rename_i hxe;cases hs';refine ⟨⟨by simp only;omega,by simp only;omega,i3,fun j y hj hy => ?_⟩,by simp only;omega⟩;simp only at hj;cases hye:lt y with
     |false=>rfl
     |true=>exact absurd (hd ((a+b) / 2) j x y hj hx hy hye) hxe
   ·rename_i hx;rw [getElem?_eq_getElem (by omega)] at hx;cases hx
  ·cases hs'
 ·obtain ⟨a,b⟩:=s;obtain ⟨i1,i2,i3,i4⟩:=hI;simp only at i1 i2 i3 i4;unfold Ec;simp only;split
  ·split
   ·split<;>rfl
   ·rfl
  ·obtain rfl:a=b:=by omega
   simp only [Rd.fin];rw [← MV i2 i3 i4]
theorem RX {B:Nat→S→(S→Option R)→Option R} {s:S} (out:Q→R) (lt:α→Bool) (l:List α) (fin:Nat→Q) (st:Nat×Nat→S) (hd:Down lt l) (hs:s=st (0,l.length))
  (hstep:∀s,s.1≤s.2→s.2≤l.length→(¬s.1<s.2→s.1=l.countP lt)→Ev fun n=>∀again,B n (st s) again=(Ec lt l fin s).go (fun s'=>again (st s')) (fun q=>some (out q))) :
  Ev fun n=>AO (B n) n s=some (out (fin (l.countP lt))):=
 (UM (Z:=Unit) (B:=fun n _=>B n) (fun _ q=>some (out q)) lt l fin st hd hs fun s h1 h2 h3=>(hstep s h1 h2 h3).mono fun n h _=>h).mono fun n h=>h ()
theorem GK {lt:α→Bool}:∀{l:List α},Down lt l→l.take (l.countP lt)=l.takeWhile lt∧l.drop (l.countP lt)=l.dropWhile lt
 |[],_=>⟨rfl,rfl⟩
 |x::l,hd=>by
  have hd':Down lt l:=fun i j a b hij ha hb h=>hd (i+1) (j+1) a b (by omega) (by simpa using ha) (by simpa using hb) h;obtain ⟨h1,h2⟩:=GK hd';cases hx:lt x with
  |true=>simp [hx,h1,h2]
  |false=>
   have hz:l.countP lt=0:=by rw [List.countP_eq_zero];intro y hy hly;obtain ⟨j,hj⟩:=mem_iff_getElem?.1 hy;have:=hd 0 (j+1) x y (by omega) rfl (by simpa using hj) hly;rw [hx] at this;cases this
   simp [hx,hz]
def QB (g:α→Bool) (b:α):List α→List α
 |[]=>[b]
 |x::l=>if g x=true then b::x::l else x::QB g b l
theorem ND (g:α→Bool) (b:α):∀(l:List α),QB g b l=l.takeWhile (fun x => !g x)++b::l.dropWhile (fun x => !g x)
 |[]=>rfl
 |x::l=>by
  unfold QB;cases h:g x with
  |true=>simp [h]
  |false=>simp [h,ND g b l]
theorem Oe (p:α→Bool):∀(l:List α) (i:Nat),A9 (fun i (_:Unit) (x:α)=>if p x=true then .done (i:Int) else .next ()) (fun _=>(-1:Int)) i l ()=((l.findIdx? p).map fun j=>((i+j:Nat):Int)).getD (-1)
 |[],i=>rfl
 |x::l,i=>by
  cases hx:p x with
  |true=>simp [A9,hx,List.findIdx?_cons]
  |false=>
   simp only [A9,hx,List.findIdx?_cons];have:=Oe p l (i+1);simp only [false_eq_true,if_false] at this ⊢;rw [this,Option.map_map];congr 2;funext j;simp only [Function.comp_apply];omega
def idx (p:α→Bool) (l:List α):Int:=((l.findIdx? p).map fun j=>((j:Nat):Int)).getD (-1)
theorem MO (p:α→Bool) (l:List α):A9 (fun i (_:Unit) (x:α)=>if p x=true then .done (i:Int) else .next ()) (fun _=>(-1:Int)) 0 l ()=idx p l:=by have:=Oe p l 0;simpa [idx] using this
theorem QC (p:α→Bool) (l:List α):0≤idx p l↔l.any p=true:=by
 unfold idx;cases h:l.findIdx? p with
 |none=>
  rw [List.findIdx?_eq_none_iff] at h;simp only [map_none,getD_none];constructor
  ·intro h;omega
  ·intro h2;rw [any_eq_true] at h2;obtain ⟨x,hx,hp⟩:=h2;simp [h x hx] at hp
 |some j=>
  simp only [map_some,Option.getD_some];rw [List.findIdx?_eq_some_iff_getElem] at h;obtain ⟨h1,h2,_⟩:=h;constructor
  ·intro _;rw [any_eq_true];exact ⟨_,getElem_mem h1,h2⟩
  ·intro _;omega
end Ab
namespace Ab
open Go
theorem vv :
  (∀(e:List AV) (h:Heap) (k:Nat),oMs (e,h) k=Kc (List.getD h k default))∧
  (∀(k ke:IntKind) (es:List (Int×Int)),Kc (.mapo k ke es)=es)∧
  (∀(e:List AV) (h:Heap) (k:Nat),vI (e,h) k=intOf (Az (List.getD e k AV.undef)))∧
  (∀(e:List AV) (h:Heap) (k:Nat),vB (e,h) k=Cf (Az (List.getD e k AV.undef)))∧
  (∀(e:List AV) (h:Heap) (k:Nat),vS (e,h) k=strOf (Az (List.getD e k AV.undef)))∧
  (∀(e:List AV) (h:Heap) (k:Nat),vL (e,h) k=E4 (Az (List.getD e k AV.undef)))∧
  (∀(e:List AV) (h:Heap) (k:Nat),Fl (e,h) k=Eh (List.getD e k AV.undef))∧
  (∀(e:List AV) (h:Heap) (k:Nat),Fw (e,h) k=Gw (List.getD e k AV.undef))∧
  (∀(e:List AV) (h:Heap) (k:Nat),A8 (e,h) k=Gx (List.getD e k AV.undef))∧
  (∀(e:List AV) (h:Heap) (k:Nat),AF (e,h) k=AA.ver (List.getD h k default))∧
  (∀(e:List AV) (h:Heap) (k:Nat),oEs (e,h) k=QJ (List.getD h k default))∧
  (∀(e:List AV) (h:Heap) (k j:Nat),cI (e,h) k j=intOf (Az (cellOf (List.getD h k default) j)))∧
  (∀(e:List AV) (h:Heap) (k j:Nat),cB (e,h) k j=Cf (Az (cellOf (List.getD h k default) j)))∧
  (∀(e:List AV) (h:Heap) (k j:Nat),cS (e,h) k j=strOf (Az (cellOf (List.getD h k default) j)))∧
  (∀(e:List AV) (h:Heap) (k j:Nat),cL (e,h) k j=E4 (Az (cellOf (List.getD h k default) j)))∧
  (∀(e:List AV) (h:Heap) (k j:Nat),AD (e,h) k j=Eh (cellOf (List.getD h k default) j))∧
  (∀(e:List AV) (h:Heap) (k j:Nat),AE (e,h) k j=Gw (cellOf (List.getD h k default) j))∧
  (∀(e:List AV) (h:Heap) (k j:Nat),AB (e,h) k j=Gx (cellOf (List.getD h k default) j))∧
  (∀(x:Tree) (l:List Tree),gI (x::l) (0:Nat)=intOf x)∧
  (∀(x:Tree) (l:List Tree) (k:Nat),gI (x::l) (k+(1:Nat))=gI l k)∧
  (∀(x:Tree) (l:List Tree),gB (x::l) (0:Nat)=Cf x)∧
  (∀(x:Tree) (l:List Tree) (k:Nat),gB (x::l) (k+(1:Nat))=gB l k)∧
  (∀(x:Tree) (l:List Tree),gS (x::l) (0:Nat)=strOf x)∧
  (∀(x:Tree) (l:List Tree) (k:Nat),gS (x::l) (k+(1:Nat))=gS l k)∧
  (∀(x:Tree) (l:List Tree),gL (x::l) (0:Nat)=E4 x)∧
  (∀(x:Tree) (l:List Tree) (k:Nat),gL (x::l) (k+(1:Nat))=gL l k)∧
  (∀(x:Tree) (l:List Tree),okI (x::l) (0:Nat)=(Ez IntKind.i64 x=true))∧
  (∀(x:Tree) (l:List Tree) (k:Nat),okI (x::l) (k+(1:Nat))=okI l k)∧
  (∀(x:Tree) (l:List Tree),okB (x::l) (0:Nat)=(Dy x=true))∧
  (∀(x:Tree) (l:List Tree) (k:Nat),okB (x::l) (k+(1:Nat))=okB l k)∧
  (∀(x:Tree) (l:List Tree),okS (x::l) (0:Nat)=(Ey x=true))∧
  (∀(x:Tree) (l:List Tree) (k:Nat),okS (x::l) (k+(1:Nat))=okS l k)∧
  (∀(z:Nat) (x:Tree) (l:List Tree),okL z (x::l) (0:Nat)=(Em z x=true))∧
  (∀(z:Nat) (x:Tree) (l:List Tree) (k:Nat),okL z (x::l) (k+(1:Nat))=okL z l k)∧
  (∀(k:IntKind) (n:Int),Ez k (Tree.int k n)=true)∧
  (∀(b:Bool),Dy (Tree.bool b)=true)∧
  (∀(b:ByteArray),Ey (Tree.str b)=true)∧
  (∀(z:Nat) (es:List (List Tree)),Em z (Tree.sl z es)=true)∧
  (∀(k:IntKind) (n:Int),intOf (Tree.int k n)=n)∧
  (∀(b:Bool),Cf (Tree.bool b)=b)∧
  (∀(b:ByteArray),strOf (Tree.str b)=b)∧
  (∀(z:Nat) (es:List (List Tree)),E4 (Tree.sl z es)=es)∧
  (∀(x:Tree),Az (AV.t x)=x)∧
  (∀(i v o l:Nat),Eh (AV.sref i v o l)=v)∧
  (∀(i v k o:Nat),Eh (AV.rptr i v k o)=v)∧
  (∀(i v o l:Nat),Gw (AV.sref i v o l)=o)∧
  (∀(i v o l:Nat),Gx (AV.sref i v o l)=l)∧
  (∀(f:Bool) (v z:Nat) (es:List (List Tree)),AA.ver (AA.row f v z es)=v)∧
  (∀(f:Bool) (v z:Nat) (es:List (List Tree)),QJ (AA.row f v z es)=es)∧
  (∀(cs:List AV) (j:Nat),cellOf (AA.box cs) j=List.getD cs j AV.undef)∧
  (∀(e:List AV) (h:Heap) (k j:Nat),aI (e,h) k j=intOf (Az (List.getD (D4 (List.getD e k AV.undef)) j AV.undef)))∧
  (∀(e:List AV) (h:Heap) (k j:Nat),aB (e,h) k j=Cf (Az (List.getD (D4 (List.getD e k AV.undef)) j AV.undef)))∧
  (∀(e:List AV) (h:Heap) (k j:Nat),aS (e,h) k j=strOf (Az (List.getD (D4 (List.getD e k AV.undef)) j AV.undef)))∧
  (∀(e:List AV) (h:Heap) (k j:Nat),aL (e,h) k j=E4 (Az (List.getD (D4 (List.getD e k AV.undef)) j AV.undef)))∧
  (∀(cs:List AV),D4 (AV.agg cs)=cs)∧
  (∀{R S:Type} (J:S→Option R) (f:(S→Option R)→Option R),join J f=f J)∧
  (∀{α:Type} {x:α} {xs:List α} {d:α},List.getD (x::xs) (0:Nat) d=x)∧
  (∀{α:Type} {x:α} {xs:List α} {n:Nat} {d:α},List.getD (x::xs) (n+(1:Nat)) d=List.getD xs n d)∧
  (∀(h:Decidable True),@decide True h=true)∧
  (∀(h:Decidable False),@decide False h=false)∧
  (∀{R:Type} {i:Decidable True} (a b:Option R),@cnd R True i a b=a)∧
  (∀{R:Type} {i:Decidable False} (a b:Option R),@cnd R False i a b=b)∧
  (∀(p:Prop),(True∧p)=p)∧
  (∀(p:Prop),(p∧True)=p)∧
  (∀(p:Prop),(False∧p)=False)∧
  (∀(p:Prop),(p∧False)=False)∧
  (∀{α β:Type} (a:α) (f:α→Option β),Option.bind (some a) f=f a)∧
  (∀{α β:Type} (f:α→Option β),Option.bind (none:Option α) f=none)∧
  (∀{α:Type} {a:α} {l:List α},length (a::l)=length l+(1:Nat))∧
  (∀{α:Type},length ([]:List α)=(0:Nat))∧
  (∀{α β:Type} {l:List α} (f:α→β),length (List.map f l)=length l)∧
  (∀{α β:Type} {f:α→β} {l:List α} {i:Nat},(List.map f l)[i]? = Option.map f l[i]?)∧
  (∀{α β:Type} (a:α) (f:α→β),Option.map f (some a)=some (f a))∧
  (∀{α β:Type} (f:α→β),Option.map f (none:Option α)=none)∧
  (∀(n:Nat),toNat (n:Int)=n)∧
  (∀{α:Type} (a:α),(a=a)=True)∧
  (∀{α:Type} {x:Decidable True} (t e:α),@ite α True x t e=t)∧
  (∀{α:Type} {x:Decidable False} (t e:α),@ite α False x t e=e)∧
  (∀(n:Nat),(0:Nat)+n=n)∧
  (∀(n:Nat),(0:Int)≤(n:Int))∧
  (∀{α:Type} {l:List α},drop (0:Nat) l=l)∧
  (∀(p:Prop),(p∨True)=True)∧
  (∀(p:Prop),(True∨p)=True)∧
  (∀(p:Prop),(p∨False)=p)∧
  (∀(p:Prop),(False∨p)=p)∧
  ((!true)=false)∧
  ((!false)=true)∧
  ((false=true)=False)∧
  (∀{p:Prop} [inst:Decidable p],(decide p=true)=p)∧
  (∀{α:Type} [inst:LE α] {x y:α},x≥y↔y≤x)∧
  (∀{α:Type} [inst:LT α] {x y:α},x>y↔y<x):=
 ⟨@oMs_mk,@P1,@vI_mk,@vB_mk,@vS_mk,@vL_mk,@sVer_mk,@sOff_mk,@sLen_mk,@oVer_mk,@oEs_mk,@cI_mk,@cB_mk,@cS_mk,@cL_mk,@cVer_mk,@cOff_mk,@cLen_mk,@gI_zero,@gI_succ,@gB_zero,@gB_succ,@gS_zero,@gS_succ,@gL_zero,@gL_succ,@TQ,@TR,@TS,@TU,@TM,@TN,@TO,@TP,@P8,@M8,@P7,@Ti,@intOf_int,@O6,@Rm,@slOf_sl,@Su,@PX,@PY,@PZ,@Pb,@ver_row,@Tr,@Qa,@aI_mk,@aB_mk,@aS_mk,@aL_mk,@Si,@join_eq,@List.getD_cons_zero,@List.getD_cons_succ,@decide_true,@decide_false,@K6,@SS,@true_and,@and_true,@false_and,@and_false,@Option.bind_some,@Option.bind_none,@length_cons,@length_nil,@length_map,@getElem?_map,@map_some,@map_none,@toNat_natCast,@eq_self,@if_true,@if_false,@zero_add,@Int.natCast_nonneg,@drop_zero,@or_true,@true_or,@or_false,@false_or,@Bool.not_true,@Bool.not_false,@false_eq_true,@decide_eq_true_eq,@ge_iff_le,@gt_iff_lt⟩
end Ab
namespace Ab
open Go
structure AG where
 frm:Int
 to:Int
 start:Int
 stop:Int
 rate:Int
 rng:Int
 loss:Int
 deriving DecidableEq
def AG.enc (c:AG):List Tree:=[tI c.frm,tI c.to,tI c.start,tI c.stop,tI c.rate,tI c.rng,tI c.loss]
structure AJ where
 contact:Int
 beg:Int
 stop:Int
 ticket:Int
 deriving DecidableEq
def AJ.enc (b:AJ):List Tree:=[tI b.contact,tI b.beg,tI b.stop,tI b.ticket]
structure Span where
 frm:Int
 to:Int
 deriving DecidableEq
def Span.enc (b:Span):List Tree:=[tI b.frm,tI b.to]
def encI (n:Int):List Tree:=[tI n]
def AX (c:AG):Int:=
 if ¬(0≤c.frm∧c.frm≤15∧0≤c.to∧c.to≤15∧1≤c.rate∧c.rate≤1000∧1≤c.rng∧c.rng≤1048576∧0≤c.loss∧c.loss≤16) then 2
 else if c.frm=c.to then 1 else if c.start<0∨c.stop≤c.start∨1099511627776-2*c.rng<c.stop then 2 else 0
theorem BO {c:AG} (h:AX c=0):0≤c.frm∧c.frm≤15∧0≤c.to∧c.to≤15∧1≤c.rate∧c.rate≤1000∧1≤c.rng∧c.rng≤1048576∧0≤c.loss∧c.loss≤16∧c.frm≠c.to∧0≤c.start∧c.start<c.stop∧c.stop≤1099511627776-2*c.rng:=by simp only [AX] at h;omega
def Ch (a b:AG):Bool:=decide (AX a=0∧AX b=0∧a.frm=b.frm∧a.to=b.to∧max a.start b.start<min a.stop b.stop)
def busy (l:List AJ) (k:Int):List Span:=l.filterMap fun b=>if b.contact=k then some ⟨b.beg,b.stop⟩ else none
def qOk (x:Int):Bool:=decide (0≤x∧x≤1073741824)
def Bv (n:Int) (cs:List AG) (i:Nat) (_:Unit) (c:AG):Rd Unit Int:=
 if AX c≠0 then .done (AX c) else if n≤c.frm∨n≤c.to then .done 2 else if (cs.take i).any (Ch c)=true then .done 14 else .next ()
def Mx (n:Int) (cs:List AG):Int:=A9 (Bv n cs) (fun _=>0) 0 cs ()
def AQ (q:List Int) (cs:List AG):Int:=
 if q.length<1∨q.length>16∨cs.length>64 then 4 else if q.all qOk=true then Mx q.length cs else 2
theorem Mz (a b:AG):Ch a b=Ch b a:=by simp only [Ch,decide_eq_decide];omega
def B4 (cs:List AG) (b:AJ):Bool:=
 if b.contact<0∨cs.length≤b.contact∨b.ticket<0∨1152921504606846976<b.ticket then false
 else match cs[b.contact.toNat]? with
  |some c=>decide (c.start≤b.beg∧b.beg<b.stop∧b.stop≤c.stop)
  |none=>false
def Cr (a b:Int):Int:=if a<b then -1 else if b<a then 1 else 0
def UG (a b:AJ):Int:=if Cr a.contact b.contact≠0 then Cr a.contact b.contact else Cr a.beg b.beg
def Cc (cs:List AG) (l:List AJ) (i:Nat) (_:Unit) (b:AJ):Rd Unit Int:=
 if B4 cs b=false then .done 2 else if i=0 then .next () else match l[i-1]? with
  |some a=>if a.contact<b.contact then .next () else if b.contact<a.contact∨b.beg≤a.beg then .done 9 else if b.beg<a.stop then .done 14 else .next ()
  |none =>.next ()
def bookL (cs:List AG) (l:List AJ):Int:=A9 (Cc cs l) (fun _=>0) 0 l ()
def Aw (q:List Int) (cs:List AG) (l:List AJ):Int:=
 if AQ q cs≠0 then 1 else if l.length>512 then 4 else bookL cs l
def EK (q:List Int) (cs:List AG) (l:List AJ) (k:Int):Int:=
 if Aw q cs l≠0 then 1 else if k<0∨cs.length≤k then 2 else 0
def CH (c:AG) (n:Int):Int:=(n+7+c.rate) / c.rate
theorem Cn {c:AG} (hr:1≤c.rate) {n:Int} (h0:0≤n) (h1:n≤16):1≤CH c n∧CH c n≤24:=by
 unfold CH;constructor
 ·exact Int.le_ediv_of_mul_le (by omega) (by omega)
 ·have h:n+7+c.rate<25*c.rate:=by omega
  have:=Int.ediv_lt_of_lt_mul (by omega) h;omega
theorem Sv {c:AG} (hr:1≤c.rate∧c.rate≤1000) {n:Int} (h0:0≤n) (h1:n≤16):w64 (Int.tdiv (w64 (w64 (w64 (n+8)+c.rate)-1)) c.rate)=CH c n:=by have b:=Cn hr.1 h0 h1;rw [A6 (x:=n+8) (by omega) (by omega),A6 (x:=n+8+c.rate) (by omega) (by omega),A6 (x:=n+8+c.rate-1) (by omega) (by omega)];rw [Int.tdiv_eq_ediv_of_nonneg (by omega),show n+8+c.rate-1=n+7+c.rate by omega];exact A6 (by unfold CH at b;omega) (by unfold CH at b;omega)
def C5 (c:AG) (n:Int):Int:=n / 16*CH c 16+if n % 16>0 then CH c (n % 16) else 0
theorem JU {c:AG} (hr:1≤c.rate) {n:Int} (h0:0≤n) (h1:n≤65536):0≤C5 c n∧C5 c n≤24*(n / 16+1):=by unfold C5;have a:=Cn hr (n:=16) (by omega) (by omega);have b:=Cn hr (n:=n % 16) (by omega) (by omega);have m1:0≤n / 16*CH c 16:=Int.mul_nonneg (by omega) (by omega);have m2:n / 16*CH c 16≤n / 16*24:=Int.mul_le_mul_of_nonneg_left a.2 (by omega);split<;>omega
theorem Pu {c:AG} {n:Int} (h:0<n):C5 c n=CH c (if 16<n then 16 else n)+C5 c (if n-16<0 then 0 else n-16):=by
 by_cases h1:16≤n
 ·have e1:(if 16<n then 16 else n)=16:=by split<;>omega
  have e2:(if n-16<0 then 0 else n-16)=n-16:=by rw [if_neg (by omega)]
  rw [e1,e2];unfold C5;rw [show n / 16=(n-16) / 16+1 by omega,show (n-16) % 16=n % 16 by omega,Int.add_mul];omega
 ·have e1:(if 16<n then 16 else n)=n:=by split<;>omega
  have e2:(if n-16<0 then 0 else n-16)=0:=by rw [if_pos (by omega)]
  rw [e1,e2];unfold C5;rw [show n / 16=0 by omega,show n % 16=n by omega];simp [h]
def Cw (c:AG) (n:Int):Int:=C5 c n+c.loss*(2*c.rng+1+CH c 16)
theorem EZ {c:AG} (hc:AX c=0) {n:Int} (h0:0≤n) (h1:n≤65536):0≤Cw c n∧Cw c n≤67108864:=by have o:=BO hc;have a:=Cn (c:=c) (by omega) (n:=16) (by omega) (by omega);have p:=JU (c:=c) (by omega) h0 h1;unfold Cw;have m1:0≤c.loss*(2*c.rng+1+CH c 16):=Int.mul_nonneg (by omega) (by omega);have m2:c.loss*(2*c.rng+1+CH c 16)≤16*(2*c.rng+1+CH c 16):=Int.mul_le_mul_of_nonneg_right (by omega) (by omega);omega
theorem dur_eq {c:AG} (hc:AX c=0) {n:Int} (h0:0≤n) (h1:n≤65536):w64 (C5 c n+w64 (c.loss*w64 (w64 (w64 (2*c.rng)+1)+CH c 16)))=Cw c n:=by have o:=BO hc;have a:=Cn (c:=c) (by omega) (n:=16) (by omega) (by omega);have p:=JU (c:=c) (by omega) h0 h1;have b:=EZ hc h0 h1;have m1:0≤c.loss*(2*c.rng+1+CH c 16):=Int.mul_nonneg (by omega) (by omega);unfold Cw at b;rw [A6 (x:=2*c.rng) (by omega) (by omega),A6 (x:=2*c.rng+1) (by omega) (by omega),A6 (x:=2*c.rng+1+_) (by omega) (by omega),A6 (x:=c.loss*_) (by omega) (by omega),A6 (by omega) (by omega)];rfl
def By (c:AG) (n:Int):Int:=if AX c≠0 then 1 else if 1≤n∧n≤65536 then 0 else 2
def Bg (stop:Int):List Span→Int→List Span
 |[],at_=>if at_<stop then [⟨at_,stop⟩] else []
 |x::l,at_=>(if at_<x.frm then [⟨at_,x.frm⟩] else [])++Bg stop l (if at_<x.to then x.to else at_)
def RP (stop:Int):List Span→Int→List Span
 |[],at_=>if at_<stop then [⟨at_,stop⟩] else []
 |x::l,at_=>(if at_<x.frm then [⟨at_,x.frm⟩] else [])++RP stop l x.to
theorem Ku (stop:Int):∀(l:List Span) (i:Nat) (s:List Span×Int),
  A9 (fun _ (s:List Span×Int) (x:Span)=>(.next (s.1++(if s.2<x.frm then [⟨s.2,x.frm⟩] else []),if s.2<x.to then x.to else s.2):Rd _ (List Span))) (fun s=>s.1++if s.2<stop then [⟨s.2,stop⟩] else []) i l s=s.1++Bg stop l s.2
 |[],i,s=>rfl
 |x::l,i,s=>by simp only [A9,Bg];rw [Ku stop l];simp
theorem LF (l:List AJ) (k:Int):(busy l k).length≤l.length:=List.length_filterMap_le _ _
theorem EL {α:Type} {step:Nat→Unit→α→Rd Unit Int} (hd:∀i x r,step i () x = .done r→r≠0):∀(l:List α) (i:Nat),A9 step (fun _=>0) i l ()=0→∀j x,l[j]? = some x→step (i+j) () x = .next ()
 |[],i,_,j,x,hx=>by simp at hx
 |y::l,i,h,j,x,hx=>by
  simp only [A9] at h;cases hs:step i () y with
  |done r=>rw [hs] at h;exact (hd i y r hs h).elim
  |next s=>
   rw [hs] at h;cases j with
   |zero=>simp at hx;subst hx;exact hs
   |succ j=>
    have:=EL hd l (i+1) h j x (by simpa using hx);rwa [show i+1+j=i+(j+1) by omega] at this
theorem Dl {α:Type} {R:α→α→Prop} (ht:∀a b c,R a b→R b c→R a c):∀(l:List α),(∀j a b,l[j]? = some a→l[j+1]? = some b→R a b)→l.Pairwise R
 |[],_ =>.nil
 |x::l,h=>by
  have ih:=Dl ht l fun j a b ha hb=>h (j+1) a b (by simpa using ha) (by simpa using hb);refine .cons (fun y hy => ?_) ih;cases l with
  |nil=>simp at hy
  |cons z l=>
   have hxz:R x z:=h 0 x z rfl rfl;rcases mem_cons.1 hy with rfl|hy
   ·exact hxz
   ·cases ih with
    |cons h1 h2=>exact ht x z y hxz (h1 y hy)
def Sr (a b:AJ):Prop:=a.contact<b.contact∨a.contact=b.contact∧a.stop≤b.beg∧b.beg<b.stop
structure JL (cs:List AG) (l:List AJ):Prop where
 valid:∀b∈l,B4 cs b=true
 sorted:l.Pairwise Sr
theorem Jw {cs:List AG} {b:AJ} (h:B4 cs b=true):0≤b.contact∧b.contact<cs.length∧0≤b.ticket∧b.ticket≤1152921504606846976∧∀c,cs[b.contact.toNat]? = some c→c.start≤b.beg∧b.beg<b.stop∧b.stop≤c.stop:=by
 simp only [B4] at h;split at h
 ·cases h
 ·refine ⟨by omega,by omega,by omega,by omega,fun c hc => ?_⟩;rw [hc] at h;simpa using h
theorem Jx {cs:List AG} {b:AJ} (h:B4 cs b=true):b.beg<b.stop:=by
 have o:=Jw h;have hlt:b.contact.toNat<cs.length:=by omega
 exact (o.2.2.2.2 _ (getElem?_eq_getElem hlt)).2.1
theorem O7 {cs:List AG} {l:List AJ} (h:bookL cs l=0):JL cs l:=by
 have hz:=EL (step:=Cc cs l) (fun i x r hr=>by simp only [Cc] at hr;grind) l 0 h
 have hv:∀(j:Nat) b,l[j]? = some b→B4 cs b=true:=fun j b hb=>by
  have:=hz j b hb;simp only [Cc] at this;cases hvb:B4 cs b with
  |true=>rfl
  |false=>simp [hvb] at this
 refine ⟨fun b hb => ?_,Dl ?_ l fun j a b ha hb => ?_⟩
 ·obtain ⟨j,hj⟩:=mem_iff_getElem?.1 hb;exact hv j b hj
 ·intro a b c h1 h2;unfold Sr at *;omega
 ·have hb1:=hv _ _ hb;have hlt:=Jx hb1;have:=hz (j+1) b hb;simp only [Cc,hb1,zero_add,Nat.add_sub_cancel,ha] at this;unfold Sr;grind
theorem Mw {q:List Int} {cs:List AG} (h:AQ q cs=0):∀c∈cs,AX c=0:=by
 intro c hc;obtain ⟨j,hj⟩:=mem_iff_getElem?.1 hc;simp only [AQ] at h;split at h
 ·omega
 ·split at h
  ·have:=EL (step:=Bv q.length cs) (fun i x r hr=>by simp only [Bv] at hr;grind) cs 0 h j c hj
   simp only [Bv] at this;grind
  ·omega
def Row (stop:Int):List Span→Int→Prop
 |[],lo=>lo≤stop
 |x::l,lo=>lo≤x.frm∧x.frm<x.to∧Row stop l x.to
theorem OD {stop:Int}:∀(l:List Span) (lo:Int),Row stop l lo→lo≤stop
 |[],_,h=>h
 |x::l,lo,⟨h1,h2,h3⟩=>by have:=OD l x.to h3;omega
theorem Fg {stop:Int}:∀(l:List Span) (lo:Int),lo≤stop→(∀x∈l,lo≤x.frm∧x.frm<x.to∧x.to≤stop)→l.Pairwise (fun x y=>x.to≤y.frm)→Row stop l lo
 |[],lo,h,_,_=>h
 |x::l,lo,_,hb,hp=>by
  have hx:=hb x (by simp);cases hp with
  |cons h1 h2=>
   exact ⟨hx.1,hx.2.1,Fg l x.to hx.2.2 (fun y hy=>⟨h1 y hy,(hb y (by simp [hy])).2.1,(hb y (by simp [hy])).2.2⟩) h2⟩
theorem IV {cs:List AG} {l:List AJ} (h:JL cs l) {k:Int} {c:AG} (hc:cs[k.toNat]? = some c) (hcc:AX c=0):Row c.stop (busy l k) c.start:=by
 have o:=BO hcc;refine Fg _ _ (by omega) (fun x hx => ?_) ?_
 ·simp only [busy,mem_filterMap] at hx;obtain ⟨b,hb,he⟩:=hx;have hv:=Jw (h.valid b hb);split at he
  ·rename_i hk;cases he;rw [hk] at hv;have:=hv.2.2.2.2 c hc;exact ⟨this.1,this.2.1,this.2.2⟩
  ·cases he
 ·unfold busy;refine List.Pairwise.filterMap _ (fun a b hab x hx y hy => ?_) h.sorted;split at hx<;>split at hy<;>first|(cases hx;done)|(cases hy;done)|skip
  cases hx;cases hy;unfold Sr at hab;show a.stop≤b.beg;omega
theorem EO {stop:Int}:∀(l:List Span) (lo at_:Int),Row stop l lo→lo≤at_→∀x∈Bg stop l at_,at_≤x.frm∧x.frm<x.to∧x.to≤stop
 |[],lo,at_,h,ha,x,hx=>by simp only [Bg] at hx;split at hx<;>simp at hx;subst hx;exact ⟨Int.le_refl _,by assumption,Int.le_refl _⟩
 |y::l,lo,at_,h,ha,x,hx=>by
  obtain ⟨h1,h2,h3⟩:=h;simp only [Bg,mem_append] at hx;have hs:y.to≤stop:=OD l _ h3;rcases hx with hx|hx
  ·split at hx<;>simp at hx;subst hx;exact ⟨Int.le_refl _,by assumption,by show y.frm≤stop;omega⟩
  ·have:=EO l y.to _ h3 (by split<;>omega) x hx;refine ⟨?_,this.2⟩;have h4:=this.1;split at h4<;>omega
theorem ck_ok {q:List Int} {cs:List AG} {l:List AJ} {k:Int} (h:EK q cs l k=0):∃c,cs[k.toNat]? = some c∧0≤k∧k<cs.length∧AX c=0∧JL cs l∧l.length≤512:=by
 simp only [EK] at h;split at h
 ·omega
 ·split at h
  ·omega
  ·rename_i h1 h2;have hlt:k.toNat<cs.length:=by omega
   have hc:cs[k.toNat]? = some cs[k.toNat]:=getElem?_eq_getElem hlt;simp only [ne_eq,Decidable.not_not,Aw] at h1;split at h1
   ·omega
   ·split at h1
    ·omega
    ·rename_i h3 h4;simp only [ne_eq,Decidable.not_not] at h3;exact ⟨_,hc,by omega,by omega,Mw h3 _ (mem_of_getElem? hc),O7 h1,by omega⟩
theorem MH (stop:Int):∀(l:List Span) (a:Int),(Bg stop l a).length≤l.length+1
 |[],a=>by simp only [Bg];split<;>simp
 |x::l,a=>by have:=MH stop l (if a<x.to then x.to else a);simp only [Bg,length_append,length_cons];split<;>simp<;>omega
theorem NI {stop:Int}:∀(l:List Span) (lo:Int),Row stop l lo→Bg stop l lo=RP stop l lo
 |[],lo,h=>rfl
 |x::l,lo,⟨h1,h2,h3⟩=>by simp only [Bg,RP];rw [if_pos (show lo<x.to by omega),NI l x.to h3]
def IJ (q:List Int) (cs:List AG) (l:List AJ) (k:Int):List Span:=
 if EK q cs l k≠0 then [] else match cs[k.toNat]? with
  |none=>[]
  |some c=>RP c.stop (busy l k) c.start
def bLt (x b:AJ):Bool:=decide (x.contact<b.contact∨x.contact=b.contact∧x.beg<b.beg)
theorem cmpB_lt (x b:AJ):UG x b<0↔bLt x b=true:=by unfold UG bLt Cr;grind
theorem CY {q:List Int} {cs:List AG} {l:List AJ} (h:Aw q cs l=0):AQ q cs=0∧l.length≤512∧JL cs l:=by
 simp only [Aw] at h;split at h
 ·omega
 ·split at h
  ·omega
  ·rename_i h1 h2;exact ⟨by simpa using h1,by omega,O7 h⟩
theorem Ly {α:Type} {step:Nat→Unit→α→Rd Unit Int}:∀(l:List α) (i:Nat),(∀j x,l[j]? = some x→step (i+j) () x = .next ())→A9 step (fun _=>0) i l ()=0
 |[],i,_=>rfl
 |y::l,i,h=>by
  have h0:=h 0 y rfl;simp only [add_zero] at h0;simp only [A9,h0];exact Ly l (i+1) fun j x hx=>by have:=h (j+1) x (by simpa using hx);rwa [show i+(j+1)=i+1+j by omega] at this
theorem NU {q:List Int} {cs:List AG} {l:List AJ} (h1:AQ q cs=0) (h2:l.length≤512) (h3:JL cs l):Aw q cs l=0:=by
 unfold Aw;rw [if_neg (by simp [h1]),if_neg (by omega)];refine Ly l 0 fun j x hx => ?_;have hv:=h3.valid x (mem_of_getElem? hx);simp only [Cc,hv,zero_add];cases j with
 |zero=>simp
 |succ j=>
  have hj:=AN hx;have ha:l[j]? = some l[j]:=getElem?_eq_getElem (by omega);have hr:=List.pairwise_iff_getElem.1 h3.sorted j (j+1) (by omega) hj (by omega);rw [getElem?_eq_getElem hj] at hx;cases hx;have hlt:=Jx (h3.valid l[j] (getElem_mem _));simp only [Nat.add_sub_cancel,ha];unfold Sr at hr;grind
def ovl (l:List AJ) (b:AJ):Bool:=l.any fun x=>decide (x.contact=b.contact∧x.beg<b.stop∧b.beg<x.stop)
theorem down_of {cs:List AG} {l:List AJ} (h:JL cs l) (b:AJ):Down (fun x=>bLt x b) l:=by
 intro i j x y hij hx hy hlt;rcases lt_or_ge i j with hlt2|hge
 ·have h1:=AN hx;have h2:=AN hy;have hr:=List.pairwise_iff_getElem.1 h.sorted i j h1 h2 hlt2;rw [getElem?_eq_getElem h1] at hx;rw [getElem?_eq_getElem h2] at hy;cases hx;cases hy;have hv:=Jx (h.valid l[i] (getElem_mem _));unfold Sr at hr;unfold bLt at *;simp only [decide_eq_true_eq] at *;omega
 ·obtain rfl:i=j:=by omega
  rw [hx] at hy;cases hy;exact hlt
def UP (l:List AJ) (b:AJ):List AJ:=QB (fun x => !bLt x b) b l
def FH (q:List Int) (cs:List AG) (l:List AJ) (b:AJ):Int:=
 if Aw q cs l≠0 then 1 else if B4 cs b=false then 2 else if l.length=512 then 4 else if ovl l b=true then 14 else 0
def JD (q:List Int) (cs:List AG) (l:List AJ) (b:AJ):List AJ:=if FH q cs l b=0 then UP l b else []
theorem add_ok {q:List Int} {cs:List AG} {l:List AJ} {b:AJ} (h:FH q cs l b=0):Aw q cs l=0∧B4 cs b=true∧l.length<512∧ovl l b=false:=by unfold FH at h;have:=fun h=>(CY (q:=q) (cs:=cs) (l:=l) h).2.1;grind
theorem UL (l:List AJ) (b:AJ):(busy l b.contact).any (fun x=>decide (x.frm<b.stop∧b.beg<x.to))=ovl l b:=by
 unfold busy ovl
 induction l with
 |nil=>rfl
 |cons x l ih=>
  by_cases hc:x.contact=b.contact
  ·rw [List.filterMap_cons_some (b:=⟨x.beg,x.stop⟩) (by simp [hc]),any_cons,any_cons,ih];simp [hc]
  ·rw [List.filterMap_cons_none (by simp [hc]),any_cons,ih];simp [hc]
def bk (k:Int) (g:Span):AJ:=⟨k,g.frm,g.to,0⟩
def blk (k:Int) (l:List AJ) (gs:List Span):List AJ:=gs.foldl (fun cur g=>UP cur (bk k g)) l
theorem JZ {stop:Int}:∀(l:List Span) (lo at_:Int),Row stop l lo→lo≤at_→(Bg stop l at_).Pairwise fun a b=>a.to≤b.frm
 |[],lo,at_,_,_=>by unfold Bg;split<;>simp
 |x::l,lo,at_,⟨h1,h2,h3⟩,hle=>by
  unfold Bg;have hn:x.to≤(if at_<x.to then x.to else at_):=by split<;>omega
  have ih:=JZ l x.to (if at_<x.to then x.to else at_) h3 hn;split
  ·rw [singleton_append,pairwise_cons];refine ⟨fun y hy => ?_,ih⟩;have:=EO l x.to _ h3 hn y hy;show x.frm≤y.frm;omega
  ·simpa using ih
theorem Kt {stop:Int}:∀(l:List Span) (lo at_:Int),Row stop l lo→lo≤at_→∀g∈Bg stop l at_,∀x∈l,x.to≤g.frm∨g.to≤x.frm
 |[],lo,at_,_,_,g,hg,x,hx=>by simp at hx
 |y::l,lo,at_,⟨h1,h2,h3⟩,hle,g,hg,x,hx=>by
  have hn:y.to≤(if at_<y.to then y.to else at_):=by split<;>omega
  unfold Bg at hg;rw [mem_append] at hg;rcases hg with hg|hg
  ·split at hg
   ·simp only [mem_singleton] at hg;subst hg;rcases mem_cons.1 hx with rfl|hx
    ·exact .inr (Int.le_refl _)
    ·refine .inr ?_;show y.frm≤x.frm;have:∀(l:List Span) (lo:Int),Row stop l lo→∀x∈l,lo≤x.frm:=by
      intro l
      induction l with
      |nil=>intro lo _ x hx;simp at hx
      |cons z l ih=>
       intro lo hr x hx;obtain ⟨r1,r2,r3⟩:=hr;rcases mem_cons.1 hx with rfl|hx
       ·exact r1
       ·have:=ih z.to r3 x hx;omega
     have:=this l y.to h3 x hx;omega
   ·simp at hg
  ·rcases mem_cons.1 hx with rfl|hx
   ·have:=EO l x.to _ h3 hn g hg;exact .inl (by omega)
   ·exact Kt l y.to _ h3 hn g hg x hx
theorem GU {c:AG} (hr:1≤c.rate) {n:Int} (h0:0≤n):1≤CH c n:=by unfold CH;rw [Int.le_ediv_iff_mul_le (by omega)];omega
theorem J0 {c:AG} (hr:1≤c.rate) {n m:Int} (h:n≤m):CH c n≤CH c m:=by unfold CH;exact Int.ediv_le_ediv (by omega) (by omega)
theorem Pt {c:AG} (hr:1≤c.rate) {n:Int} (h0:0≤n):C5 c n≤C5 c (n+1):=by
 unfold C5;have t16:=GU hr (n:=16) (by omega);by_cases h:n % 16=15
 ·have e1:(n+1) / 16=n / 16+1:=by omega
  have e2:(n+1) % 16=0:=by omega
  rw [e1,e2,h];have:=J0 hr (n:=15) (m:=16) (by omega);simp only [Int.add_mul];simp;omega
 ·have e1:(n+1) / 16=n / 16:=by omega
  have e2:(n+1) % 16=n % 16+1:=by omega
  rw [e1,e2];have:=J0 hr (n:=n % 16) (m:=n % 16+1) (by omega);have:=GU hr (n:=n % 16+1) (by omega);split<;>split<;>omega
theorem KV {c:AG} (hr:1≤c.rate) {n:Int} (h0:0≤n):∀(d:Nat),C5 c n≤C5 c (n+d)
 |0=>by simp
 |d+1=>by have:=KV hr h0 d;have:=Pt hr (n:=n+d) (by omega);rw [show n+((d+1:Nat):Int)=n+d+1 by omega];omega
theorem Rz {c:AG} (hr:1≤c.rate) {n:Int} (h0:1≤n):1≤C5 c n:=by
 have h1:C5 c 1=CH c 1:=by unfold C5;simp
 have:=KV hr (n:=1) (by omega) (n-1).toNat;rw [show (1:Int)+((n-1).toNat:Int)=n by omega,h1] at this;have:=GU hr (n:=1) (by omega);omega
theorem Ol {c:AG} (hc:AX c=0) {n:Int} (h0:1≤n):1≤Cw c n:=by have o:=BO hc;unfold Cw;have h1:=Rz (c:=c) (by omega) h0;have h2:=GU (c:=c) (by omega) (n:=16) (by omega);have:0≤c.loss*(2*c.rng+1+CH c 16):=Int.mul_nonneg (by omega) (by omega);omega
end Ab
namespace Ab
open Go
theorem Mj {α β:Type} (f:α→β) (s:List α):take s.length (List.map f s)=List.map f s:=take_of_length_le (by simp)
theorem TB (es:List (List Tree)) (hl:es.length≤1073741824):Af C 1000078 [.sl 4 es] [.sl 4 es]:=by
 refine Af.of (fun n=>Tt n _) (Ev.of fun n => ?_);by_cases h:es.length=0
 ·have:es=[]:=eq_nil_of_length_eq_zero h;subst this;simp [AI,I7]
 ·rw [Cj h,Cj hl,take_of_length_le (le_refl _)]
theorem Rs (a b c:Int):Af C 139 [tI a,tI b,tI c] [.bool (decide (b≤a∧a≤c))]:=by refine Af.of (fun n=>e139 n a b c) (Ev.of fun n => ?_);simp only [AI];by_cases h:b≤a<;>simp [h]
theorem s79 (c:AG):Af C 79 c.enc [tI (AX c)]:=by refine Af.of (fun n=>e79 n _ _ _ _ _ _ _) ?_;refine ((Rs c.frm 0 15).and ((Rs c.to 0 15).and ((Rs c.rate 1 1000).and ((Rs c.rng 1 1048576).and (Rs c.loss 0 16))))).mono fun n ⟨h1,h2,h3,h4,h5⟩=> ?_;simp only [h1,h2,h3,h4,h5,vv,reduceCtorEq,reduceAdd,reduceEqDiff];simp only [EP,AX,w64,wrap64,not_eq_true',decide_eq_false_iff_not,beq_iff_eq];congr 3;omega
theorem s43 (c:AG):Af C 43 c.enc [tI (AX c)]:=by refine Af.of (fun n=>e43 n _ _ _ _ _ _ _) (Ev.of fun n => ?_);simp only [EP,AX,w64,wrap64,beq_iff_eq,decide_eq_true_eq];congr 3;omega
theorem s82 (a b:AG):Af C 82 (a.enc++b.enc) [.bool (Ch a b)]:=by
 refine Af.of (fun n=>e82 n _ _ _ _ _ _ _ _ _ _ _ _ _ _) ?_;refine ((s79 a).and (s79 b)).mono fun n ⟨h1,h2⟩=> ?_;simp only [AG.enc] at h1 h2;simp only [h1,h2,vv,reduceCtorEq,reduceAdd,reduceEqDiff];simp only [AI,Ch,bne_iff_ne,ne_eq];by_cases k1:AX a=0<;>by_cases k2:AX b=0<;>by_cases k3:a.frm=b.frm<;>by_cases k4:a.to=b.to<;>simp [k1,k2,k3,k4]
 repeat' split
 all_goals omega
theorem s44 (a b:AG):Af C 44 (a.enc++b.enc) [.bool (Ch a b)]:=by
 refine Af.of (fun n=>e44 n _ _ _ _ _ _ _ _ _ _ _ _ _ _) ?_;refine ((s43 a).and (s43 b)).mono fun n ⟨h1,h2⟩=> ?_;simp only [AG.enc] at h1 h2;simp only [h1,h2,vv,reduceCtorEq,reduceAdd,reduceEqDiff];simp only [AI,Ch,beq_iff_eq];by_cases k1:AX a=0<;>by_cases k2:AX b=0<;>by_cases k3:a.frm=b.frm<;>by_cases k4:a.to=b.to<;>simp [k1,k2,k3,k4];have o1:=BO k1;have o2:=BO k2;by_cases h:a.start<b.stop
 ·simp only [h,if_true,Option.some.injEq,List.cons.injEq,Tree.bool.injEq,and_true,decide_eq_decide];omega
 ·simp only [h,if_false,Option.some.injEq,List.cons.injEq,Tree.bool.injEq,and_true];symm;simp only [decide_eq_false_iff_not];omega
theorem s38 (l:List AJ) (k:Int) (hl:l.length≤1000000):Af C 38 [.sl 4 (l.map AJ.enc),tI k] [.sl 2 ((busy l k).map Span.enc)]:=by
 refine Af.of (fun n=>e38 n _ _) ?_;refine R8 l (fun i (s:List Span)=>(([.sref 0 s.length 0 s.length,.t (tI i)],[.row false s.length 2 (s.map Span.enc)]):List AV×Heap))
  (fun i s x =>.next (s++(if x.contact=k then some (⟨x.beg,x.stop⟩:Span) else none).toList)) (fun s=>[.sl 2 (s.map Span.enc)]) (fun i s=>s.length≤i∧i≤l.length) [] rfl
  (by simp) ?_ (fun i s x hx hI=>Ev.of fun n again => ?_) (fun i s x s' hx hI h => ?_) (fun s hI=>Ev.of fun n again => ?_)
 ·rw [CJ,foldl_filterMap (fun x:AJ=>if x.contact=k then some (⟨x.beg,x.stop⟩:Span) else none)];rfl
 ·have hi:=AN hx;simp only [vv,reduceCtorEq,reduceAdd,reduceEqDiff,hx,AJ.enc,Rd.Ae];rw [Cj (by omega),AY (by omega)];by_cases hk:x.contact=k
  ·simp only [hk,beq_self_eq_true,K6,if_true];rw [Cj (by omega)];simp [Span.enc,Mj]
  ·simp [hk,AI]
 ·have hi:=AN hx;simp only [Rd.next.injEq] at h;subst h;split<;>simp at * <;>omega
 ·simp only [length_map,vv,reduceCtorEq,reduceAdd,reduceEqDiff];rw [DV (by omega)];simp [← map_take]
theorem s41 (q:List Int) (cs:List AG):Af C 41 [.sl 1 (q.map encI),.sl 7 (cs.map AG.enc)] [tI (AQ q cs)]:=by
 refine Af.of (fun n=>e41 n _ _) ?_;simp only [length_map,decide_eq_true_eq];by_cases h0:q.length<1∨q.length>16∨cs.length>64
 ·refine Ev.of fun n => ?_;simp only [AQ,if_pos h0,AI];grind
 simp only [AQ,if_neg h0];simp only [DV (show ¬((q.length:Nat):Int)<1 by omega),DV (show ¬((q.length:Nat):Int)>16 by omega),DV (show ¬((cs.length:Nat):Int)>64 by omega)];refine An (fun r=>[tI r]) q (fun i _=>(([.t (tI i)],[]):List AV×Heap)) (fun i _ x=>if qOk x=true then .next () else .done 2)
  (fun _=>Mx q.length cs) (fun i s=>True) () rfl trivial (Ho _ _ _ _ _) (fun i s x hx hI=>Ev.of fun n again => ?_) (fun i s x s' hx hI h=>trivial) (fun s hI => ?_)
 ·have hi:=AN hx;simp only [vv,reduceCtorEq,reduceAdd,reduceEqDiff,hx,encI,qOk,AY (show i<4611686018427387904 by omega)];grind [AI,Rd.Ap,Rd.Ae]
 ·simp only [vv,reduceCtorEq,reduceAdd,reduceEqDiff,lt_irrefl];refine Ev.mono (fun n h again=>h) ?_;refine An (fun r=>[tI r]) cs (fun i _=>(([.t (tI i)],[]):List AV×Heap)) (Bv q.length cs) (fun _=>0) (fun i s=>True) () rfl trivial rfl (fun i s c hx hI => ?_) (fun i s x s' hx hI h=>trivial) (fun s hI=>Ev.of fun n again => ?_)
  ·have hi:=AN hx;by_cases k1:AX c=0∧c.frm<q.length∧c.to<q.length
   ·refine Ev.rwZ (T' := ?T') (s79 c) (fun n h again => ?a) ?b
    case a=>
     simp only [AG.enc] at h;simp only [vv,reduceCtorEq,reduceAdd,reduceEqDiff,hx,AG.enc,AY (show i<4611686018427387904 by omega),h,k1.1,bne_self_eq_false,(show (i:Int)<cs.length by omega),(show ¬(q.length:Int)≤c.frm by omega),(show ¬(q.length:Int)≤c.to by omega),(show (i:Int)≤cs.length by omega)];rfl
    case b=>
     have hps:Bv q.length cs i s c=(if (cs.take i).any (Ch c)=true then .done 14 else .next ()):=by simp only [Bv];rw [if_neg (by omega),if_neg (by omega)]
     simp only [hps,Rd.To,Rd.Ap,Rd.Ae];refine BZ (cs.take i) (fun j _=>(([.t (tI j)],[.box []]):List AV×Heap)) (fun j _ d=>if Ch c d=true then .done true else .next ()) (fun _=>false) (fun (again:List AV×Heap→Option (List Tree)) b=>if b=true then some [tI 14] else again ([AV.t (tI ((i+1:Nat):Int))],[])) (fun _ _=>True) () rfl trivial (Hn _ _ _)
      (fun j s d hd hI => ?_) (fun _ _ _ _ _ _ _=>trivial) (fun s hI=>Ev.of fun n again again2 => ?_)
     ·have hj:=AN hd;refine (s82 c d).mono fun n h again again2 => ?_;simp only [AG.enc,cons_append,nil_append] at h;simp only [vv,reduceCtorEq,reduceAdd,reduceEqDiff,← map_take,hd,AG.enc,h,AY (show j<4611686018427387904 by simp at hj;omega),(show (j:Int)<(cs.take i).length by omega)];by_cases ho:Ch c d=true<;>simp only [ho,AI,if_true,if_false,Rd.Ap,Rd.Ae,false_eq_true]
     ·simp only [vv,reduceCtorEq,reduceAdd,reduceEqDiff,← map_take,lt_irrefl]
   ·refine (s79 c).mono fun n h again => ?_;simp only [AG.enc] at h;simp only [vv,reduceCtorEq,reduceAdd,reduceEqDiff,hx,AG.enc,AY (show i<4611686018427387904 by omega),h,(show (i:Int)<cs.length by omega),Bv];by_cases k2:AX c=0
    ·simp only [k2,bne_self_eq_false,AI];grind [Rd.Ap]
    ·simp [k2,AI,Rd.Ap]
  ·simp only [vv,reduceCtorEq,reduceAdd,reduceEqDiff,lt_irrefl]
theorem s15 (q:List Int) (cs:List AG):Af C 15 [.sl 1 (q.map encI),.sl 7 (cs.map AG.enc)] [tI (AQ q cs)]:=by
 refine Af.of (fun n=>e15 n _ _) ?_;simp only [length_map,decide_eq_true_eq];by_cases h0:q.length<1∨q.length>16∨cs.length>64
 ·refine Ev.of fun n => ?_;simp only [AQ,if_pos h0,AI];grind
 simp only [AQ,if_neg h0];simp only [DV (show ¬((q.length:Nat):Int)<1 by omega),DV (show ¬((q.length:Nat):Int)>16 by omega),DV (show ¬((cs.length:Nat):Int)>64 by omega)];refine An (fun r=>[tI r]) q (fun i _=>(([.t (tI i)],[]):List AV×Heap)) (fun i _ x=>if qOk x=true then .next () else .done 2)
  (fun _=>Mx q.length cs) (fun i s=>True) () rfl trivial (Ho _ _ _ _ _) (fun i s x hx hI=>Ev.of fun n again => ?_) (fun i s x s' hx hI h=>trivial) (fun s hI => ?_)
 ·have hi:=AN hx;simp only [vv,reduceCtorEq,reduceAdd,reduceEqDiff,hx,encI,qOk,AY (show i<4611686018427387904 by omega)];grind [AI,Rd.Ap,Rd.Ae]
 ·simp only [vv,reduceCtorEq,reduceAdd,reduceEqDiff,lt_irrefl];refine Ev.mono (fun n h again=>h) ?_;refine An (fun r=>[tI r]) cs (fun i _=>(([.t (tI i)],[]):List AV×Heap)) (Bv q.length cs) (fun _=>0) (fun i s=>True) () rfl trivial rfl (fun i s c hx hI => ?_) (fun i s x s' hx hI h=>trivial) (fun s hI=>Ev.of fun n again => ?_)
  ·have hi:=AN hx;by_cases k1:AX c=0∧c.frm<q.length∧c.to<q.length
   ·refine Ev.rwZ (T' := ?T') (s43 c) (fun n h again => ?a) ?b
    case a=>
     simp only [AG.enc] at h;simp only [vv,reduceCtorEq,reduceAdd,reduceEqDiff,hx,AG.enc,AY (show i<4611686018427387904 by omega),h,k1.1,bne_self_eq_false,(show (i:Int)<cs.length by omega),(show ¬(q.length:Int)≤c.frm by omega),(show ¬(q.length:Int)≤c.to by omega)];rfl
    case b=>
     have hps:Bv q.length cs i s c=(if (cs.take i).any (Ch c)=true then .done 14 else .next ()):=by simp only [Bv];rw [if_neg (by omega),if_neg (by omega)]
     simp only [hps,Rd.To,Rd.Ap,Rd.Ae];refine BZ (cs.take i) (fun j _=>(([.t (tI j)],[.box []]):List AV×Heap)) (fun j _ d=>if Ch c d=true then .done true else .next ()) (fun _=>false) (fun (again:List AV×Heap→Option (List Tree)) b=>if b=true then some [tI 14] else again ([AV.t (tI ((i+1:Nat):Int))],[])) (fun _ _=>True) () rfl trivial (Hn _ _ _)
      (fun j s d hd hI => ?_) (fun _ _ _ _ _ _ _=>trivial) (fun s hI=>Ev.of fun n again again2 => ?_)
     ·have hj:=AN hd;have hji:j<i:=by simp at hj;omega
      have hd2:cs[j]? = some d:=by rw [getElem?_take_of_lt hji] at hd;exact hd
      refine (s44 d c).mono fun n h again again2 => ?_;simp only [AG.enc,cons_append,nil_append] at h;simp only [vv,reduceCtorEq,reduceAdd,reduceEqDiff,hd2,AG.enc,h,AY (show j<4611686018427387904 by omega),(show (j:Int)<i by omega),Mz d c];by_cases ho:Ch c d=true<;>simp only [ho,AI,if_true,if_false,Rd.Ap,Rd.Ae,false_eq_true]
     ·have e:(cs.take i).length=i:=by simp;omega
      simp only [vv,reduceCtorEq,reduceAdd,reduceEqDiff,e,lt_irrefl]
   ·refine (s43 c).mono fun n h again => ?_;simp only [AG.enc] at h;simp only [vv,reduceCtorEq,reduceAdd,reduceEqDiff,hx,AG.enc,AY (show i<4611686018427387904 by omega),h,(show (i:Int)<cs.length by omega),Bv];by_cases k2:AX c=0
    ·simp only [k2,bne_self_eq_false,AI];grind [Rd.Ap]
    ·simp [k2,AI,Rd.Ap]
  ·simp only [vv,reduceCtorEq,reduceAdd,reduceEqDiff,lt_irrefl]
theorem s36 (q:List Int) (cs:List AG) (b:AJ):Af C 36 [.sl 1 (q.map encI),.sl 7 (cs.map AG.enc),tI b.contact,tI b.beg,tI b.stop,tI b.ticket] [.bool (B4 cs b)]:=by
 refine Af.of (fun n=>e36 n _ _ _ _ _ _) (Ev.of fun n => ?_);simp only [vv,reduceCtorEq,reduceAdd,reduceEqDiff,B4];by_cases h:b.contact<0∨cs.length≤b.contact∨b.ticket<0∨1152921504606846976<b.ticket
 ·simp only [if_pos h,AI];grind
 ·have hlt:b.contact.toNat<cs.length:=by omega
  have hc:cs[b.contact.toNat]? = some cs[b.contact.toNat]:=getElem?_eq_getElem hlt;simp only [if_neg h,hc,vv,reduceCtorEq,reduceAdd,reduceEqDiff,AG.enc,(show ¬b.contact<0 by omega),(show ¬(cs.length:Int)≤b.contact by omega),(show ¬b.ticket<0 by omega),(show ¬1152921504606846976<b.ticket by omega),(show 0≤b.contact by omega)];simp only [AI];grind
theorem s108 (q:List Int) (cs:List AG) (b:AJ):Af C 108 [.sl 1 (q.map encI),.sl 7 (cs.map AG.enc),tI b.contact,tI b.beg,tI b.stop,tI b.ticket] [.bool (B4 cs b)]:=by
 refine Af.of (fun n=>e108 n _ _ _ _ _ _) (Ev.of fun n => ?_);simp only [vv,reduceCtorEq,reduceAdd,reduceEqDiff,B4];by_cases h:b.contact<0∨cs.length≤b.contact∨b.ticket<0∨1152921504606846976<b.ticket
 ·simp only [if_pos h,AI];grind
 ·have hlt:b.contact.toNat<cs.length:=by omega
  have hc:cs[b.contact.toNat]? = some cs[b.contact.toNat]:=getElem?_eq_getElem hlt;simp only [if_neg h,hc,vv,reduceCtorEq,reduceAdd,reduceEqDiff,AG.enc,(show ¬b.contact<0 by omega),(show ¬(cs.length:Int)≤b.contact by omega),(show ¬b.ticket<0 by omega),(show ¬1152921504606846976<b.ticket by omega),(show 0≤b.contact by omega)];simp only [AI];grind
theorem s74 (a:Int):Af C 74 [tI a] [.bool false]:=by refine Af.of (fun n=>e74 n _) (Ev.of fun n => ?_);simp
theorem s35 (a b:Int):Af C 35 [tI a,tI b] [tI (Cr a b)]:=by refine Af.of (fun n=>e35 n _ _) ?_;refine ((s74 a).and (s74 b)).mono fun n h => ?_;simp only [h.1,h.2,vv,reduceCtorEq,reduceAdd,reduceEqDiff,EP,Cr]
theorem s34 (l:List Int) (hl:l.length≤1000):Af C 34 [.sl 1 (l.map encI)] [tI ((l.find? (· ≠ 0)).getD 0)]:=by
 refine Af.of (fun n=>e34 n _) ?_;refine An (fun r=>[tI r]) l (fun i _=>(([.t (tI i)],[]):List AV×Heap)) (fun i _ x=>if x≠0 then .done x else .next ()) (fun _=>0) (fun _ _=>True) () rfl trivial ?_
  (fun i s x hx hI=>Ev.of fun n again => ?_) (fun _ _ _ _ _ _ _=>trivial) (fun s hI=>Ev.of fun n again => ?_)
 ·have:∀(i:Nat) (l:List Int),A9 (fun _ (_:Unit) (x:Int)=>if x≠0 then .done x else .next ()) (fun _=>0) i l ()=(l.find? (· ≠ 0)).getD 0:=by
   intro i l
   induction l generalizing i with
   |nil=>rfl
   |cons x l ih=>
    by_cases hx:x=0
    ·simp only [A9,hx,ne_eq,not_true_eq_false,if_false,find?_cons,decide_false];exact ih _
    ·simp [A9,hx]
  exact this 0 l
 ·have hi:=AN hx;simp only [vv,reduceCtorEq,reduceAdd,reduceEqDiff,hx,encI,AY (show i<4611686018427387904 by omega),(show (i:Int)<l.length by omega)];by_cases h:x=0<;>simp [h,AI,Rd.Ap,Rd.Ae]
 ·simp only [vv,reduceCtorEq,reduceAdd,reduceEqDiff,lt_irrefl]
theorem s42 (a b:AJ):Af C 42 (a.enc++b.enc) [tI (UG a b)]:=by refine Af.of (fun n=>e42 n _ _ _ _ _ _ _ _) ?_;refine ((s35 a.contact b.contact).and ((s35 a.beg b.beg).and (s34 [Cr a.contact b.contact,Cr a.beg b.beg] (by simp)))).mono fun n ⟨h1,h2,h3⟩=> ?_;simp only [map_cons,map_nil,encI] at h3;simp only [h1,h2,h3,vv,reduceCtorEq,reduceAdd,reduceEqDiff];congr 3;simp only [UG,find?_cons,List.find?_nil];grind
theorem s13 (q:List Int) (cs:List AG) (l:List AJ):Af C 13 [.sl 1 (q.map encI),.sl 7 (cs.map AG.enc),.sl 4 (l.map AJ.enc)] [tI (Aw q cs l)]:=by
 refine Af.of (fun n=>e13 n _ _ _) ?_;refine Ev.rw (T' := ?T') (s41 q cs) (fun n h => ?a) ?b
 case a=>
  simp only [h,vv,reduceCtorEq,reduceAdd,reduceEqDiff];rfl
 case b=>
  by_cases h1:AQ q cs=0∧l.length≤512
  ·simp only [h1.1,bne_self_eq_false,(show ¬(512:Int)<l.length by omega),vv,reduceCtorEq,reduceAdd,reduceEqDiff,Aw,ne_eq,not_true_eq_false,(show ¬l.length>512 by omega)];refine An (fun r=>[tI r]) l (fun i _=>(([.t (tI i)],[]):List AV×Heap)) (Cc cs l) (fun _=>0) (fun _ _=>True) () rfl trivial rfl
    (fun i s b hx hI => ?_) (fun _ _ _ _ _ _ _=>trivial) (fun s hI=>Ev.of fun n again => ?_)
   ·have hi:=AN hx;by_cases hi0:i=0
    ·subst hi0;refine (s36 q cs b).mono fun n h again => ?_;simp only [vv,reduceCtorEq,reduceAdd,reduceEqDiff,hx,AJ.enc,h,AY (show 0<4611686018427387904 by omega),(show ((0:Nat):Int)<l.length by omega),Cc];cases B4 cs b<;>simp [AI,Rd.Ap,Rd.Ae]
    ·have hp:l[i-1]? = some l[i-1]:=getElem?_eq_getElem (by omega);refine ((s36 q cs b).and (s42 l[i-1] b)).mono fun n ⟨h,h2⟩ again => ?_;simp only [AJ.enc,cons_append,nil_append] at h2;simp only [vv,reduceCtorEq,reduceAdd,reduceEqDiff,hx,hp,AJ.enc,h,h2,AY (show i<4611686018427387904 by omega),Hd (show i<4611686018427387904 by omega) (by omega),(show ((i:Nat):Int)<l.length by omega),Cc,if_neg hi0];rw [DV (show ¬((i:Int)==0)=true by simp [hi0])];cases B4 cs b
     ·simp [AI,Rd.Ap]
     ·simp only [AI,UG,Cr];grind [Rd.Ap,Rd.Ae]
   ·simp only [vv,reduceCtorEq,reduceAdd,reduceEqDiff,lt_irrefl]
  ·refine Ev.of fun n => ?_;simp only [Aw];by_cases h2:AQ q cs=0
   ·simp only [h2,bne_self_eq_false,(show (512:Int)<l.length by omega),vv,reduceCtorEq,reduceAdd,reduceEqDiff,ne_eq,not_true_eq_false,(show l.length>512 by omega)]
   ·simp [h2,AI]
theorem s57 (q:List Int) (cs:List AG) (l:List AJ):Af C 57 [.sl 1 (q.map encI),.sl 7 (cs.map AG.enc),.sl 4 (l.map AJ.enc)] [tI (Aw q cs l)]:=by
 refine Af.of (fun n=>e57 n _ _ _) ?_;refine Ev.rw (T' := ?T') (s15 q cs) (fun n h => ?a) ?b
 case a=>
  simp only [h,vv,reduceCtorEq,reduceAdd,reduceEqDiff];rfl
 case b=>
  by_cases h1:AQ q cs=0∧l.length≤512
  ·simp only [h1.1,bne_self_eq_false,(show ¬(512:Int)<l.length by omega),vv,reduceCtorEq,reduceAdd,reduceEqDiff,Aw,ne_eq,not_true_eq_false,(show ¬l.length>512 by omega)];refine An (fun r=>[tI r]) l (fun i _=>(([.t (tI i)],[]):List AV×Heap)) (Cc cs l) (fun _=>0) (fun _ _=>True) () rfl trivial rfl
    (fun i s b hx hI => ?_) (fun _ _ _ _ _ _ _=>trivial) (fun s hI=>Ev.of fun n again => ?_)
   ·have hi:=AN hx;by_cases hi0:i=0
    ·subst hi0;refine (s108 q cs b).mono fun n h again => ?_;simp only [vv,reduceCtorEq,reduceAdd,reduceEqDiff,hx,AJ.enc,h,AY (show 0<4611686018427387904 by omega),(show ((0:Nat):Int)<l.length by omega),Cc];cases B4 cs b<;>simp [AI,Rd.Ap,Rd.Ae]
    ·have hp:l[i-1]? = some l[i-1]:=getElem?_eq_getElem (by omega);refine ((s108 q cs b)).mono fun n h again => ?_;simp only [vv,reduceCtorEq,reduceAdd,reduceEqDiff,hx,hp,AJ.enc,h,AY (show i<4611686018427387904 by omega),Hd (show i<4611686018427387904 by omega) (by omega),(show ((i:Nat):Int)<l.length by omega),Cc,if_neg hi0];rw [DV (show ¬((i:Int)==0)=true by simp [hi0])];cases B4 cs b
     ·simp [AI,Rd.Ap]
     ·simp only [AI];grind [Rd.Ap,Rd.Ae]
   ·simp only [vv,reduceCtorEq,reduceAdd,reduceEqDiff,lt_irrefl]
  ·refine Ev.of fun n => ?_;simp only [Aw];by_cases h2:AQ q cs=0
   ·simp only [h2,bne_self_eq_false,(show (512:Int)<l.length by omega),vv,reduceCtorEq,reduceAdd,reduceEqDiff,ne_eq,not_true_eq_false,(show l.length>512 by omega)]
   ·simp [h2,AI]
theorem s141 (q:List Int) (cs:List AG) (l:List AJ) (k:Int):Af C 141 [.sl 1 (q.map encI),.sl 7 (cs.map AG.enc),.sl 4 (l.map AJ.enc),tI k] [tI (EK q cs l k)]:=by refine Af.of (fun n=>e141 n _ _ _ _) ?_;refine (s13 q cs l).mono fun n h => ?_;simp only [h,vv,reduceCtorEq,reduceAdd,reduceEqDiff,EP,EK];congr 3;simp only [bne_iff_ne];grind
theorem s185 (c:AG) (hr:1≤c.rate∧c.rate≤1000) (n:Int) (h0:0≤n) (h1:n≤16):Af C 185 (c.enc++[tI n]) [tI (CH c n)]:=by refine Af.of (fun n=>e185 n _ _ _ _ _ _ _ _) (Ev.of fun m => ?_);rw [DV (by omega),Sv hr h0 h1]
theorem s184 (c:AG) (hr:1≤c.rate∧c.rate≤1000) (n:Int) (h0:0≤n) (h1:n≤65536):Af C 184 (c.enc++[tI n]) [tI (C5 c n)]:=by
 refine Af.of (fun n=>e184 n _ _ _ _ _ _ _ _) ?_;refine JO (fun r=>[tI r]) (fun (s:Int×Int)=>(([.t (tI s.1)],[.box [.t (tI s.2)],.box []]):List AV×Heap))
  (fun s=>if 0<s.1 then .next (s.1-16,s.2+CH c (if 16<s.1 then 16 else s.1)) else .done s.2) (fun s => -16<s.1∧s.1≤65536∧0≤s.2∧s.2≤24*(4096-s.1 / 16)) (fun s=>(s.1+16).toNat)
  (fun s=>s.2+C5 c (if s.1<0 then 0 else s.1)) (n,0) rfl ⟨by omega,by omega,by omega,by omega⟩ (by simp only [Int.zero_add];rw [if_neg (by omega)]) ?_ ?_ ?_
 ·rintro ⟨a,b⟩ ⟨i1,i2,i3,i4⟩
  dsimp only at i1 i2 i3 i4;by_cases ha:0<a
  ·have hm:0≤(if 16<a then 16 else a)∧(if 16<a then 16 else a)≤16:=by split<;>omega
   have tb:=Cn hr.1 hm.1 hm.2;refine (s185 c hr _ hm.1 hm.2).mono fun m k again => ?_;simp only [AG.enc,cons_append,nil_append] at k;simp only [vv,reduceCtorEq,reduceAdd,reduceEqDiff,ha,k,Rd.Ae];rw [A6 (x:=a-16) (by omega) (by omega),A6 (x:=b+_) (by omega) (by omega)]
  ·refine Ev.of fun m again => ?_;simp only [vv,reduceCtorEq,reduceAdd,reduceEqDiff,ha,Rd.Ap]
 ·rintro ⟨a,b⟩ ⟨a',b'⟩ ⟨i1,i2,i3,i4⟩ hs
  dsimp only at i1 i2 i3 i4 hs ⊢;by_cases ha:0<a
  ·have hm:0≤(if 16<a then 16 else a)∧(if 16<a then 16 else a)≤16:=by split<;>omega
   have tb:=Cn hr.1 hm.1 hm.2;simp only [ha,if_true,Rd.next.injEq,Prod.mk.injEq] at hs;omega
  ·simp [ha] at hs
 ·rintro ⟨a,b⟩ ⟨i1,i2,i3,i4⟩
  dsimp only at i1 i2 i3 i4 ⊢;by_cases ha:0<a
  ·simp only [ha,if_true,Rd.fin];rw [if_neg (by omega),Pu ha];omega
  ·simp only [ha,if_false,Rd.fin];have e:(if a<0 then 0 else a)=0:=by split<;>omega
   rw [e];simp [C5]
theorem s144 (c:AG) (hc:AX c=0) (n:Int) (h0:0≤n) (h1:n≤65536):Af C 144 (c.enc++[tI n]) [tI (Cw c n)]:=by have o:=BO hc;refine Af.of (fun n=>e144 n _ _ _ _ _ _ _ _) ?_;refine ((s184 c (by omega) n h0 h1).and (s185 c (by omega) 16 (by omega) (by omega))).mono fun m ⟨k1,k2⟩=> ?_;simp only [AG.enc,cons_append,nil_append] at k1 k2;simp only [k1,k2,vv,reduceCtorEq,reduceAdd,reduceEqDiff,dur_eq hc h0 h1]
theorem s143 (c:AG) (n:Int):Af C 143 (c.enc++[tI n]) [tI (By c n)]:=by refine Af.of (fun n=>e143 n _ _ _ _ _ _ _ _) ?_;refine ((s79 c).and (Rs n 1 65536)).mono fun m ⟨k1,k2⟩=> ?_;simp only [AG.enc] at k1;simp only [k1,k2,vv,reduceCtorEq,reduceAdd,reduceEqDiff,EP,By];congr 3;simp only [bne_iff_ne,not_eq_true',decide_eq_false_iff_not];grind
theorem s84 (c:AG) (n:Int):Af C 84 (c.enc++[tI n]) [tI (if By c n=0 then Cw c n else 0),tI (By c n)]:=by
 refine Af.of (fun n=>e84 n _ _ _ _ _ _ _ _) ?_;by_cases h:By c n=0
 ·have h2:AX c=0∧1≤n∧n≤65536:=by simp only [By] at h;grind
  refine ((s143 c n).and (s144 c h2.1 n (by omega) (by omega))).mono fun m ⟨k1,k2⟩=> ?_;simp only [AG.enc,cons_append,nil_append] at k1 k2;simp only [k1,k2,vv,reduceCtorEq,reduceAdd,reduceEqDiff,h,bne_self_eq_false]
 ·refine (s143 c n).mono fun m k1 => ?_;simp only [AG.enc,cons_append,nil_append] at k1;simp only [k1,vv,reduceCtorEq,reduceAdd,reduceEqDiff,if_neg h];rw [Cj (by simp [h])]
theorem s142 (q:List Int) (cs:List AG) (l:List AJ) (k from_:Int) (c:AG) (hk:0≤k) (hc:cs[k.toNat]? = some c) (hl:l.length≤1000000) :
  Af C 142 [.sl 1 (q.map encI),.sl 7 (cs.map AG.enc),.sl 4 (l.map AJ.enc),tI k,tI from_] [.sl 2 ((Bg c.stop (busy l k) (if c.start<from_ then from_ else c.start)).map Span.enc)]:=by
 refine Af.of (fun n=>e142 n _ _ _ _ _) ?_;have hbl:=LF l k;refine Ev.rw (T' := ?T') (s38 l k hl) (fun n h => ?a) ?b
 case a=>
  simp only [vv,reduceCtorEq,reduceAdd,reduceEqDiff,hk,hc,AG.enc,h];rfl
 case b=>
  refine An (fun (g:List Span)=>[Tree.sl 2 (g.map Span.enc)]) (busy l k) (fun i (s:List Span×Int)=>(([.t (tI i)],[.box [],.row false s.1.length 2 (s.1.map Span.enc),.box [.sref 1 s.1.length 0 s.1.length],.box [.t (tI s.2)]]):List AV×Heap))
   (fun _ s x =>.next (s.1++(if s.2<x.frm then [⟨s.2,x.frm⟩] else []),if s.2<x.to then x.to else s.2)) (fun s=>s.1++if s.2<c.stop then [⟨s.2,c.stop⟩] else [])
   (fun i s=>s.1.length≤i∧i≤(busy l k).length) ([],if c.start<from_ then from_ else c.start) rfl (by simp) ((Ku _ _ _ _).trans (nil_append _)) (fun i s x hx hI=>Ev.of fun n again => ?_) (fun i s x s' hx hI h => ?_) (fun s hI=>Ev.of fun n again => ?_)
  ·have hi:=AN hx;simp only [vv,reduceCtorEq,reduceAdd,reduceEqDiff,hx,Span.enc,AY (show i<4611686018427387904 by omega),(show (i:Int)<(busy l k).length by omega),Rd.Ae,(show s.1.length+1≤1073741824 by omega)];by_cases h:s.2<x.frm
   ·simp [h,AI,Span.enc,Mj]
   ·simp [h,AI]
  ·have hi:=AN hx;simp only [Rd.next.injEq] at h;subst h;simp only [length_append];split<;>simp<;>omega
  ·simp only [vv,reduceCtorEq,reduceAdd,reduceEqDiff,lt_irrefl,(show s.1.length+1≤1073741824 by omega)];by_cases h:s.2<c.stop
   ·simp only [h,vv,reduceCtorEq,reduceAdd,reduceEqDiff,map_append,map_cons,map_nil,Span.enc,Mj,length_map,le_refl,K6];rw [take_of_length_le (by simp)]
   ·simp only [h,vv,reduceCtorEq,reduceAdd,reduceEqDiff,append_nil];rw [take_of_length_le (by simp)]
theorem s83 (q:List Int) (cs:List AG) (l:List AJ) (k:Int) :
  Af C 83 [.sl 1 (q.map encI),.sl 7 (cs.map AG.enc),.sl 4 (l.map AJ.enc),tI k] [.sl 2 ((IJ q cs l k).map Span.enc),tI (EK q cs l k)]:=by
 refine Af.of (fun n=>e83 n _ _ _ _) ?_;by_cases h0:EK q cs l k=0
 ·obtain ⟨c,hc,hk,hk2,hcc,hbo,hl⟩:=ck_ok h0;refine ((s141 q cs l k).and (s142 q cs l k c.start c hk hc (by omega))).mono fun n ⟨k1,k2⟩=> ?_;simp only [k1,vv,reduceCtorEq,reduceAdd,reduceEqDiff,h0,bne_self_eq_false,hk,hc,AG.enc,k2,IJ,ne_eq,not_true_eq_false,lt_irrefl,NI _ _ (IV hbo hc hcc)]
 ·refine (s141 q cs l k).mono fun n k1 => ?_;simp only [k1,vv,reduceCtorEq,reduceAdd,reduceEqDiff,IJ,h0,ne_eq,not_false_eq_true,map_nil];rw [Cj (by simp [h0])]
theorem s40 (l:List AJ) (b:AJ) (hd:Down (fun x=>bLt x b) l) (hl:l.length≤1000000):Af C 40 [.sl 4 (l.map AJ.enc),tI b.contact,tI b.beg,tI b.stop,tI b.ticket] [.sl 4 ((QB (fun x => !bLt x b) b l).map AJ.enc)]:=by
 refine Af.of (fun n=>e40 n _ _ _ _ _) ?_;have hi:QB (fun x => !bLt x b) b l=l.take (l.countP fun x=>bLt x b)++b::l.drop (l.countP fun x=>bLt x b):=by rw [ND];obtain ⟨h1,h2⟩:=GK hd;rw [h1,h2];simp
 rw [hi];refine RX (fun (k:Nat)=>[Tree.sl 4 ((l.take k++b::l.drop k).map AJ.enc)]) (fun x=>bLt x b) l id (fun s=>(([.t (tI s.1),.t (tI s.2)],[]):List AV×Heap)) hd (by simp)
  (fun s h1 h2 h3 => ?_)
 obtain ⟨a,c⟩:=s;simp only at h1 h2 h3;by_cases hac:a<c
 ·have hm:l[(a+c) / 2]? = some l[(a+c) / 2]:=getElem?_eq_getElem (by omega);refine (s42 l[(a+c) / 2] b).mono fun n h again => ?_;simp only [AJ.enc,cons_append,nil_append] at h;simp only [vv,reduceCtorEq,reduceAdd,reduceEqDiff,halfU a c (by omega),hm,AJ.enc,h,(show (a:Int)<(c:Int) by omega),Ec,if_pos hac,cmpB_lt,AY (show (a+c) / 2<4611686018427387904 by omega)];cases bLt l[(a+c) / 2] b<;>simp [AI,Rd.Ae]
 ·have ho:Ec (fun x=>bLt x b) l id (a,c)= .done a:=by simp [Ec,hac]
  rw [ho];have hcl:=TB (l.map AJ.enc) (by simp;omega);have hlen:l.length+1≤1073741824:=by omega
  have ha:(a:Int)≤(l.length:Int):=by omega
  have e1:∀x:List Tree,take (l.length+1) (take a (List.map AJ.enc l)++[x]++drop a (List.map AJ.enc l))=take a (List.map AJ.enc l)++[x]++drop a (List.map AJ.enc l):=fun x=>take_of_length_le (by simp;omega);by_cases hal:a<l.length
  ·have hm:l[a]? = some l[a]:=getElem?_eq_getElem hal;refine ((s42 l[a] b).and hcl).mono fun n h again => ?_;obtain ⟨h,k⟩:=h;simp only [AJ.enc,cons_append,nil_append] at h;simp only [vv,reduceCtorEq,reduceAdd,reduceEqDiff,hm,AJ.enc,h,k,(show ¬(a:Int)<(c:Int) by omega),(show (a:Int)<(l.length:Int) by omega),Rd.Ap,hlen,ha,e1];simp [AJ.enc,map_take,map_drop,AI]
  ·refine hcl.mono fun n k again => ?_;simp only [vv,reduceCtorEq,reduceAdd,reduceEqDiff,k,(show ¬(a:Int)<(c:Int) by omega),(show ¬(a:Int)<(l.length:Int) by omega),Rd.Ap,hlen,ha,e1];simp [AJ.enc,map_take,map_drop,AI]
theorem s12 (q:List Int) (cs:List AG) (l:List AJ) (b:AJ) :
  Af C 12 [.sl 1 (q.map encI),.sl 7 (cs.map AG.enc),.sl 4 (l.map AJ.enc),tI b.contact,tI b.beg,tI b.stop,tI b.ticket] [.sl 4 ((JD q cs l b).map AJ.enc),tI (FH q cs l b)]:=by
 refine Af.of (fun n=>e12 n _ _ _ _ _ _ _) ?_;by_cases h0:Aw q cs l=0
 ·obtain ⟨p1,p2,p3⟩:=CY h0;cases hv:B4 cs b with
  |false=>
   refine ((s13 q cs l).and (s36 q cs b)).mono fun n h => ?_;simp only [h.1,h.2,vv,reduceCtorEq,reduceAdd,reduceEqDiff,h0,hv,bne_self_eq_false];simp [JD,FH,h0,hv]
  |true=>
   by_cases hl:l.length=512
   ·refine ((s13 q cs l).and (s36 q cs b)).mono fun n h => ?_;simp only [h.1,h.2,vv,reduceCtorEq,reduceAdd,reduceEqDiff,h0,hv,bne_self_eq_false,hl];simp [JD,FH,h0,hv,hl,AI]
   ·have hbl:=LF l b.contact;refine Ev.rw (T' := ?TT) ((s13 q cs l).and ((s36 q cs b).and (s38 l b.contact (by omega)))) (fun n h => ?g1) ?g2
    case g1=>
     simp only [h.1,h.2.1,h.2.2,vv,reduceCtorEq,reduceAdd,reduceEqDiff,h0,hv,bne_self_eq_false,(show (((l.length:Nat):Int)==512)=false by simp;omega)];rfl
    case g2=>
     have hins:=s40 l b (down_of p3 b) (by omega);have hr:[Tree.sl 4 ((JD q cs l b).map AJ.enc),tI (FH q cs l b)]=(fun (o:Bool)=>if o=true then [Tree.sl 4 [],tI 14] else [Tree.sl 4 ((UP l b).map AJ.enc),tI 0]) (ovl l b):=by
      cases ho:ovl l b with
      |true=>simp [JD,FH,h0,hv,hl,ho]
      |false=>simp [JD,FH,h0,hv,hl,ho]
     rw [hr];refine An (fun (o:Bool)=>if o=true then [Tree.sl 4 [],tI 14] else [Tree.sl 4 ((UP l b).map AJ.enc),tI 0]) (busy l b.contact) (fun i (_:Unit)=>(([.t (tI i)],[]):List AV×Heap)) (fun _ _ x=>if decide (x.frm<b.stop∧b.beg<x.to)=true then .done true else .next ()) (fun _=>false) (fun _ _=>True) () rfl trivial (by rw [Hn,UL])
      (fun i s x hx hI=>Ev.of fun n again => ?_) (fun _ _ _ _ _ _ _=>trivial) (fun s hI=>hins.mono fun n h again => ?_)
     ·have hi:=AN hx;simp only [vv,reduceCtorEq,reduceAdd,reduceEqDiff,hx,Span.enc,(show (i:Int)<(busy l b.contact).length by omega),AY (show i<4611686018427387904 by omega)];by_cases c1:x.frm<b.stop
      ·by_cases c2:b.beg<x.to
       ·simp [c1,c2,AI,Rd.Ap]
       ·simp [c1,c2,AI,Rd.Ae]
      ·simp [c1,AI,Rd.Ae]
     ·simp only [h,vv,reduceCtorEq,reduceAdd,reduceEqDiff,lt_irrefl,UP]
 ·refine (s13 q cs l).mono fun n h => ?_;simp only [h,vv,reduceCtorEq,reduceAdd,reduceEqDiff];rw [Cj (by simp [h0])];simp [JD,FH,h0]
end Ab
namespace Ab
open Go
structure Lab where
 node:Int
 frm:Int
 to:Int
 time:Int
 deriving DecidableEq
def Lab.enc (x:Lab):List Tree:=[tI x.node,tI x.frm,tI x.to,tI x.time]
structure Hop where
 con:Int
 beg:Int
 stop:Int
 arr:Int
 deriving DecidableEq
def Hop.enc (x:Hop):List Tree:=[tI x.con,tI x.beg,tI x.stop,tI x.arr]
structure Rqt where
 src:Int
 dst:Int
 size:Int
 ready:Int
 dead:Int
 prio:Int
 cust:Bool
structure Gr where
 cs:List AG
 gaps:List (List Span)
 Ar:List (List Span)
 dur:List Int
 rq:Rqt
def C3 (n fr:Int):List Span→Option Int
 |[]=>none
 |x::l=>if (if fr>x.frm then fr else x.frm)+n≤x.to then some (if fr>x.frm then fr else x.frm) else C3 n fr l
def IF (k:Nat) (c:AG) (n:Int) (gs:List Span) (fr:Int):Option Hop:=(C3 n fr gs).map fun b=>⟨k,b,b+n,b+n+c.rng⟩
def Ew (r:Rqt) (c:AG) (h:Hop):Int:=if r.cust then h.stop+2*c.rng else h.stop
def Bn (g:Gr) (node:Int):List Span:=if node=g.rq.dst then [⟨0,1099511627776⟩] else g.Ar.getD node.toNat []
def mv1 (g:Gr) (x:Lab) (k:Nat) (c:AG) (r:Span):Option (Lab×Hop):=
 match IF k c (g.dur.getD k 0) (g.gaps.getD k []) (if r.frm>x.time then r.frm else x.time) with
 |none=>none
 |some h=>if Ew g.rq c h>x.to∨h.arr>g.rq.dead∨(c.to≠g.rq.dst∧h.arr≥r.to) then none else some (⟨c.to,r.frm,r.to,h.arr⟩,h)
def mvC (g:Gr) (x:Lab) (k:Nat) (c:AG):List (Lab×Hop):=if c.frm=x.node then (Bn g c.to).filterMap (mv1 g x k c) else []
def mvL (g:Gr) (x:Lab):Nat→List AG→List (Lab×Hop)
 |_,[]=>[]
 |k,c::l=>mvC g x k c++mvL g x (k+1) l
def BT (g:Gr) (x:Lab):List (Lab×Hop):=mvL g x 0 g.cs
theorem RB {g:Gr} {x:Lab} {m:Lab×Hop}:∀{l:List AG} {k:Nat},m∈mvL g x k l↔∃j c,l[j]? = some c∧m∈mvC g x (k+j) c
 |[],k=>by simp [mvL]
 |c::l,k=>by
  rw [mvL,mem_append,RB];constructor
  ·rintro (h|⟨j,c',h1,h2⟩)
   ·exact ⟨0,c,rfl,h⟩
   ·exact ⟨j+1,c',by simpa using h1,by rw [show k+(j+1)=k+1+j by omega];exact h2⟩
  ·rintro ⟨j,c',h1,h2⟩
   cases j with
   |zero=>cases (by simpa using h1:c=c');exact .inl h2
   |succ j=>exact .inr ⟨j,c',by simpa using h1,by rw [show k+1+j=k+(j+1) by omega];exact h2⟩
theorem FB {g:Gr} {x:Lab} {m:Lab×Hop}:m∈BT g x↔∃(k:Nat) (c:AG) (r:Span),g.cs[k]? = some c∧c.frm=x.node∧r∈Bn g c.to∧mv1 g x k c r=some m:=by
 unfold BT;rw [RB];constructor
 ·rintro ⟨k,c,h1,h2⟩
  unfold mvC at h2;split at h2
  ·rename_i hf;obtain ⟨r,h3,h4⟩:=mem_filterMap.1 h2;exact ⟨k,c,r,h1,hf,h3,by rw [zero_add] at h4;exact h4⟩
  ·simp at h2
 ·rintro ⟨k,c,r,h1,hf,h3,h4⟩
  refine ⟨k,c,h1,?_⟩;unfold mvC;rw [if_pos hf];exact mem_filterMap.2 ⟨r,h3,by rw [zero_add];exact h4⟩
theorem H7 {g:Gr} {x:Lab} {k:Nat} {c:AG} {r:Span} {m:Lab×Hop} (h:mv1 g x k c r=some m) :
  ∃b,C3 (g.dur.getD k 0) (if r.frm>x.time then r.frm else x.time) (g.gaps.getD k [])=some b∧m.2=⟨k,b,b+g.dur.getD k 0,b+g.dur.getD k 0+c.rng⟩∧m.1=⟨c.to,r.frm,r.to,b+g.dur.getD k 0+c.rng⟩∧
   ¬(Ew g.rq c m.2>x.to∨m.2.arr>g.rq.dead∨(c.to≠g.rq.dst∧m.2.arr≥r.to)):=by
 unfold mv1 IF at h;cases hb:C3 (g.dur.getD k 0) (if r.frm>x.time then r.frm else x.time) (g.gaps.getD k []) with
 |none=>rw [hb] at h;simp at h
 |some b=>
  rw [hb] at h;simp only [map_some] at h;split at h
  ·cases h
  ·rename_i hc;cases h;exact ⟨b,rfl,rfl,rfl,hc⟩
theorem mv1_of {g:Gr} {x:Lab} {k:Nat} {c:AG} {r:Span} {b:Int} (hb:C3 (g.dur.getD k 0) (if r.frm>x.time then r.frm else x.time) (g.gaps.getD k [])=some b)
  (hc:¬(Ew g.rq c ⟨k,b,b+g.dur.getD k 0,b+g.dur.getD k 0+c.rng⟩>x.to∨b+g.dur.getD k 0+c.rng>g.rq.dead∨(c.to≠g.rq.dst∧b+g.dur.getD k 0+c.rng≥r.to))) :
  mv1 g x k c r=some (⟨c.to,r.frm,r.to,b+g.dur.getD k 0+c.rng⟩,⟨k,b,b+g.dur.getD k 0,b+g.dur.getD k 0+c.rng⟩):=by
 unfold mv1 IF;rw [hb];simp only [map_some];rw [if_neg hc]
theorem Gd {n fr b:Int}:∀{l:List Span},C3 n fr l=some b→fr≤b∧∃x∈l,x.frm≤b∧b+n≤x.to
 |[],h=>by cases h
 |x::l,h=>by
  unfold C3 at h;have hb0:fr≤(if fr>x.frm then fr else x.frm)∧x.frm≤(if fr>x.frm then fr else x.frm):=by split<;>omega
  generalize (if fr>x.frm then fr else x.frm)=b0 at h hb0;split at h
  ·rename_i hc;cases h;exact ⟨hb0.1,x,mem_cons_self ..,hb0.2,hc⟩
  ·obtain ⟨h1,y,h2,h3⟩:=Gd h;exact ⟨h1,y,mem_cons_of_mem _ h2,h3⟩
def A3 (a b:Lab):Bool:=decide (a.node=b.node∧a.frm=b.frm)
def DP (a:Lab):Int×Int:=(a.node,a.frm)
theorem E6 {a b:Lab}:A3 a b=true↔DP a=DP b:=by unfold A3 DP;rw [decide_eq_true_eq,Prod.mk.injEq]
def I3 (a b:Lab):Int:=if Cr a.time b.time≠0 then Cr a.time b.time else if Cr a.node b.node≠0 then Cr a.node b.node else Cr a.frm b.frm
def C6:Lab→List Lab→Lab
 |m,[]=>m
 |m,x::l=>C6 (if I3 x m<0 then x else m) l
theorem SX {a b:Lab} (h:¬I3 a b<0):b.time≤a.time:=by unfold I3 Cr at h;grind
theorem QX {a b:Lab} (h:I3 a b<0):a.time≤b.time:=by unfold I3 Cr at h;grind
theorem EM:∀(l:List Lab) (m:Lab),C6 m l∈m::l∧∀y∈m::l,(C6 m l).time≤y.time
 |[],m=>by simp [C6]
 |x::l,m=>by
  obtain ⟨h1,h2⟩:=EM l (if I3 x m<0 then x else m);unfold C6;refine ⟨?_,fun y hy => ?_⟩
  ·rcases mem_cons.1 h1 with h|h
   ·rw [h];split<;>simp
   ·exact mem_cons_of_mem _ (mem_cons_of_mem _ h)
  ·have h3:=h2 (if I3 x m<0 then x else m) (mem_cons_self ..);rcases mem_cons.1 hy with rfl|hy
   ·by_cases hc:I3 x y<0
    ·rw [if_pos hc] at h3 ⊢;exact Int.le_trans h3 (QX hc)
    ·rw [if_neg hc] at h3 ⊢;exact h3
   ·rcases mem_cons.1 hy with rfl|hy
    ·by_cases hc:I3 y m<0
     ·rw [if_pos hc] at h3 ⊢;exact h3
     ·rw [if_neg hc] at h3 ⊢;exact Int.le_trans h3 (SX hc)
    ·exact h2 y (mem_cons_of_mem _ hy)
def M6 (g:Gr) (done:List Lab) (x:Lab):List Lab:=((BT g x).filter fun m=>decide (m.1.node≠g.rq.dst) && !done.any fun y=>A3 m.1 y).map (·.1)
def SC (g:Gr):Nat→List Lab→List Lab→List Lab
 |0,done,_=>done
 |_+1,done,[]=>done
 |f+1,done,o::os=>SC g f (done++[C6 o os]) ((o::os).filter (fun y => !A3 (C6 o os) y)++M6 g (done++[C6 o os]) (C6 o os))
def ER (g:Gr):List Lab:=(g.Ar.getD g.rq.src.toNat []).filterMap fun r=>if r.frm≤g.rq.ready∧g.rq.ready<r.to then some ⟨g.rq.src,r.frm,r.to,g.rq.ready⟩ else none
inductive Reach (g:Gr):Lab→Prop
 |start {x:Lab}:x∈ER g→Reach g x
 |step {x:Lab} {m:Lab×Hop}:Reach g x→m∈BT g x→m.1.node≠g.rq.dst→Reach g m.1
structure GOk (g:Gr):Prop where
 src:0≤g.rq.src∧g.rq.src<g.Ar.length∧g.rq.src≠g.rq.dst
 dur:∀k,k<g.cs.length→1≤g.dur.getD k 0
 con:∀c∈g.cs,0≤c.to∧c.to<g.Ar.length∧1≤c.rng
 room:∀(l:List Span),l∈g.Ar→l.Pairwise fun a b=>a.frm≠b.frm
def Ff (g:Gr) (y:Lab):Prop:=(0≤y.node∧y.node<g.Ar.length)∧y.node≠g.rq.dst∧(⟨y.frm,y.to⟩:Span)∈g.Ar.getD y.node.toNat []
theorem Pg {g:Gr} {n:Int} (h:n≠g.rq.dst):Bn g n=g.Ar.getD n.toNat []:=by rw [Bn,if_neg h]
theorem L6 {g:Gr} (hg:GOk g) {x:Lab} {m:Lab×Hop} (hm:m∈BT g x) (hd:m.1.node≠g.rq.dst):Ff g m.1:=by obtain ⟨k,c,r,h1,h2,h3,h4⟩:=FB.1 hm;obtain ⟨b,h5,h6,h7,h8⟩:=H7 h4;have hc:=hg.con c (mem_of_getElem? h1);rw [h7] at hd ⊢;refine ⟨⟨hc.1,hc.2.1⟩,hd,?_⟩;rw [Pg hd] at h3;exact h3
theorem J7 {g:Gr} (hg:GOk g) {x:Lab} (hx:x∈ER g):Ff g x:=by
 obtain ⟨r,h1,h2⟩:=mem_filterMap.1 hx;split at h2
 ·cases h2;exact ⟨⟨hg.src.1,hg.src.2.1⟩,hg.src.2.2,h1⟩
 ·cases h2
theorem HC {g:Gr} (hg:GOk g) {x:Lab} (h:Reach g x):Ff g x:=by
 cases h with
 |start h=>exact J7 hg h
 |step _ h2 h3=>exact L6 hg h2 h3
theorem pw_eq {l:List Span} (h:l.Pairwise fun a b=>a.frm≠b.frm) {a b:Span} (ha:a∈l) (hb:b∈l) (he:a.frm=b.frm):a=b:=by
 induction l with
 |nil=>cases ha
 |cons x l ih=>
  rw [pairwise_cons] at h;rcases mem_cons.1 ha with rfl|ha
  ·rcases mem_cons.1 hb with rfl|hb
   ·rfl
   ·exact (h.1 b hb he).elim
  ·rcases mem_cons.1 hb with hb|hb
   ·rw [hb] at he;exact (h.1 a ha he.symm).elim
   ·exact ih h.2 ha hb
theorem Tp {α:Type} {l:List (List α)} {n:Nat} {a:α} (h:a∈l.getD n []):l.getD n []∈l:=by
 by_cases hn:n<l.length
 ·simp [List.getD,hn]
 ·simp [List.getD,getElem?_eq_none (not_lt.1 hn)] at h
theorem Qy {g:Gr} (hg:GOk g) {x y:Lab} (hx:Ff g x) (hy:Ff g y) (h:DP x=DP y):x.to=y.to:=by unfold DP at h;simp only [Prod.mk.injEq] at h;have h1:=hx.2.2;have h2:=hy.2.2;rw [h.1] at h1;have:=pw_eq (hg.room _ (Tp h2)) h1 h2 h.2;injection this
def EW (g:Gr):List (Int×Int):=((List.range g.Ar.length).map fun n=>(g.Ar.getD n []).map fun r=>((n:Int),r.frm)).flatten
theorem key_mem {g:Gr} {x:Lab} (h:Ff g x):DP x∈EW g:=by unfold EW;refine mem_flatten.2 ⟨_,mem_map.2 ⟨x.node.toNat,mem_range.2 (by have:=h.1;omega),rfl⟩,mem_map.2 ⟨_,h.2.2,?_⟩⟩;unfold DP;have:=h.1;rw [Int.toNat_of_nonneg this.1]
theorem HH {g:Gr} (hg:GOk g) {x:Lab} {m:Lab×Hop} (hm:m∈BT g x):x.time<m.1.time∧x.time≤m.2.beg∧m.2.beg<m.2.stop∧m.2.stop<m.2.arr∧m.1.time=m.2.arr:=by
 obtain ⟨k,c,r,h1,h2,h3,h4⟩:=FB.1 hm;obtain ⟨b,h5,h6,h7,h8⟩:=H7 h4;have hc:=hg.con c (mem_of_getElem? h1);have hd:=hg.dur k (AN h1);have hb:=(Gd h5).1;have:x.time≤b:=by refine Int.le_trans ?_ hb;split<;>omega
 have e1:m.2.beg=b:=by rw [h6]
 have e2:m.2.stop=b+g.dur.getD k 0:=by rw [h6]
 have e3:m.2.arr=b+g.dur.getD k 0+c.rng:=by rw [h6]
 have e4:m.1.time=b+g.dur.getD k 0+c.rng:=by rw [h7]
 omega
structure PQ (g:Gr) (done opn:List Lab):Prop where
 nd:(done.map DP).Nodup
 apart:∀x∈opn,∀d∈done,DP d≠DP x
 ord:∀d∈done,∀x∈opn,d.time≤x.time
 reach:∀x∈done++opn,Reach g x
 clos:∀d∈done,∀m∈BT g d,m.1.node≠g.rq.dst→∃z∈done++opn,DP z=DP m.1∧z.time≤m.1.time
 start:∀s∈ER g,∃z∈done++opn,DP z=DP s∧z.time≤s.time
 come:∀z∈done++opn,z∈ER g∨∃d∈done,∃m∈BT g d,m.1=z
theorem Kg (g:Gr):PQ g [] (ER g) where
 nd:=by simp
 apart:=fun x _ d hd=>by cases hd
 ord:=fun d hd=>by cases hd
 reach:=fun x hx =>.start (by simpa using hx)
 clos:=fun d hd=>by cases hd
 start:=fun s hs=>⟨s,by simpa using hs,rfl,Int.le_refl _⟩
 come:=fun z hz =>.inl (by simpa using hz)
theorem MB {g:Gr} (hg:GOk g) {done os:List Lab} {o:Lab} (h:PQ g done (o::os)) :
  PQ g (done++[C6 o os]) ((o::os).filter (fun y => !A3 (C6 o os) y)++M6 g (done++[C6 o os]) (C6 o os)):=by
 obtain ⟨hx1,hx2⟩:=EM os o;generalize hxe:C6 o os=x at hx1 hx2;have hxr:Reach g x:=h.reach x (mem_append_right _ hx1);have hnew:∀y∈M6 g (done++[x]) x,∃m∈BT g x,m.1=y∧m.1.node≠g.rq.dst∧∀d∈done++[x],DP d≠DP y:=fun y hy=>by unfold M6 at hy;obtain ⟨m,h1,h2⟩:=mem_map.1 hy;obtain ⟨h3,h4⟩:=mem_filter.1 h1;simp only [and_eq_true,decide_eq_true_eq,not_eq_true',List.any_eq_false] at h4;refine ⟨m,h3,h2,h4.1,fun d hd he => ?_⟩;have:=h4.2 d hd;rw [E6,h2] at this;exact this he.symm
 have hfil:∀y∈(o::os).filter (fun y => !A3 x y),y∈o::os∧DP x≠DP y:=fun y hy=>by obtain ⟨h1,h2⟩:=mem_filter.1 hy;refine ⟨h1,fun he => ?_⟩;rw [E6.2 he] at h2;cases h2
 refine ⟨?_,fun y hy d hd => ?_,fun d hd y hy => ?_,fun y hy => ?_,fun d hd m hm hmd => ?_,fun s hs => ?_,fun z hz => ?_⟩
 ·rw [map_append,nodup_append];refine ⟨h.nd,by simp,fun a ha b hb he => ?_⟩;obtain ⟨d,hd,rfl⟩:=mem_map.1 ha;simp only [map_cons,map_nil,mem_singleton] at hb;rw [hb] at he;exact h.apart x hx1 d hd he
 ·rcases mem_append.1 hy with hy|hy
  ·obtain ⟨h1,h2⟩:=hfil y hy;rcases mem_append.1 hd with hd|hd
   ·exact h.apart y h1 d hd
   ·cases mem_singleton.1 hd;exact h2
  ·obtain ⟨m,_,_,_,h4⟩:=hnew y hy;exact h4 d hd
 ·have hdx:d.time≤x.time:=by
   rcases mem_append.1 hd with hd|hd
   ·exact h.ord d hd x hx1
   ·cases mem_singleton.1 hd;exact Int.le_refl _
  rcases mem_append.1 hy with hy|hy
  ·exact Int.le_trans hdx (hx2 y (hfil y hy).1)
  ·obtain ⟨m,h1,h2,_,_⟩:=hnew y hy;have:=(HH hg h1).1;rw [h2] at this;omega
 ·rcases mem_append.1 hy with hy|hy
  ·rcases mem_append.1 hy with hy|hy
   ·exact h.reach y (mem_append_left _ hy)
   ·cases mem_singleton.1 hy;exact hxr
  ·rcases mem_append.1 hy with hy|hy
   ·exact h.reach y (mem_append_right _ (hfil y hy).1)
   ·obtain ⟨m,h1,h2,h3,_⟩:=hnew y hy;rw [← h2];exact .step hxr h1 h3
 ·have keep:∀z∈done++(o::os),∃z'∈done++[x]++((o::os).filter (fun y => !A3 x y)++M6 g (done++[x]) x),DP z'=DP z∧z'.time≤z.time:=fun z hz=>by
   rcases mem_append.1 hz with hz|hz
   ·exact ⟨z,by simp [hz],rfl,Int.le_refl _⟩
   ·by_cases he:DP x=DP z
    ·exact ⟨x,by simp,he,hx2 z hz⟩
    ·refine ⟨z,mem_append_right _ (mem_append_left _ (mem_filter.2 ⟨hz,?_⟩)),rfl,Int.le_refl _⟩;cases hs:A3 x z with
     |false=>rfl
     |true=>exact (he (E6.1 hs)).elim
  rcases mem_append.1 hd with hd|hd
  ·obtain ⟨z,hz1,hz2,hz3⟩:=h.clos d hd m hm hmd;obtain ⟨z',h1,h2,h3⟩:=keep z hz1;exact ⟨z',h1,h2.trans hz2,Int.le_trans h3 hz3⟩
  ·cases mem_singleton.1 hd;by_cases ha:(done++[x]).any (fun y=>A3 m.1 y)=true
   ·obtain ⟨d,hd1,hd2⟩:=any_eq_true.1 ha;refine ⟨d,mem_append_left _ hd1,(E6.1 hd2).symm,?_⟩;have hlt:=(HH hg hm).1;have hdx:d.time≤x.time:=by
     rcases mem_append.1 hd1 with hd|hd
     ·exact h.ord d hd x hx1
     ·cases mem_singleton.1 hd;exact Int.le_refl _
    omega
   ·refine ⟨m.1,mem_append_right _ (mem_append_right _ ?_),rfl,Int.le_refl _⟩;unfold M6;refine mem_map.2 ⟨m,mem_filter.2 ⟨hm,?_⟩,rfl⟩;simp only [Bool.not_eq_true] at ha;simp only [ha,Bool.not_false,Bool.and_true,decide_eq_true_eq];exact hmd
 ·obtain ⟨z,hz1,hz2,hz3⟩:=h.start s hs;rcases mem_append.1 hz1 with hz|hz
  ·exact ⟨z,by simp [hz],hz2,hz3⟩
  ·by_cases he:DP x=DP z
   ·exact ⟨x,by simp,he.trans hz2,Int.le_trans (hx2 z hz) hz3⟩
   ·refine ⟨z,mem_append_right _ (mem_append_left _ (mem_filter.2 ⟨hz,?_⟩)),hz2,hz3⟩;cases hs:A3 x z with
    |false=>rfl
    |true=>exact (he (E6.1 hs)).elim
 ·have old:∀z∈done++(o::os),z∈ER g∨∃d∈done++[x],∃m∈BT g d,m.1=z:=fun z hz=>by
   rcases h.come z hz with h1|⟨d,h1,h2⟩
   ·exact .inl h1
   ·exact .inr ⟨d,mem_append_left _ h1,h2⟩
  rcases mem_append.1 hz with hz|hz
  ·rcases mem_append.1 hz with hz|hz
   ·exact old z (mem_append_left _ hz)
   ·cases mem_singleton.1 hz;exact old x (mem_append_right _ hx1)
  ·rcases mem_append.1 hz with hz|hz
   ·exact old z (mem_append_right _ (hfil z hz).1)
   ·obtain ⟨m,h1,h2,_,_⟩:=hnew z hz;exact .inr ⟨x,by simp,m,h1,h2⟩
theorem OL {α:Type} [DecidableEq α]:∀{a b:List α},a.Nodup→(∀x∈a,x∈b)→a.length≤b.length
 |[],_,_,_=>zero_le _
 |x::a,b,h,hs=>by rw [nodup_cons] at h;have hx:=hs x (mem_cons_self ..);have ih:=OL (a:=a) (b:=b.erase x) h.2 fun y hy=>(List.mem_erase_of_ne (fun e=>h.1 (by rw [← e];exact hy))).2 (hs y (mem_cons_of_mem _ hy));rw [List.length_erase_of_mem hx] at ih;have:=List.length_pos_of_mem hx;simp only [length_cons];omega
theorem H9 {g:Gr} (hg:GOk g) {done opn:List Lab} (h:PQ g done opn):done.length≤(EW g).length:=by
 have:=OL h.nd (b:=EW g) fun k hk=>by obtain ⟨d,hd,rfl⟩:=mem_map.1 hk;exact key_mem (HC hg (h.reach d (mem_append_left _ hd)))
 simpa using this
theorem OU {g:Gr} (hg:GOk g):∀(f:Nat) (done opn:List Lab),PQ g done opn→(EW g).length<done.length+f→PQ g (SC g f done opn) []
 |0,done,opn,h,hf=>by have:=H9 hg h;omega
 |f+1,done,[],h,_=>h
 |f+1,done,o::os,h,hf=>OU hg f _ _ (MB hg h) (by simp;omega)
def labels (g:Gr):List Lab:=SC g ((EW g).length+1) [] (ER g)
theorem Kn {g:Gr} (hg:GOk g):PQ g (labels g) []:=OU hg _ _ _ (Kg g) (by simp)
def Od (s:Option Int) (t:Int):Bool:=match s with
 |none=>true
 |some b=>decide (t<b)
def FY (g:Gr) (s:Option Int) (m:Lab×Hop):Option Int:=if m.1.node=g.rq.dst∧Od s m.1.time=true then some m.1.time else s
def FZ (g:Gr) (s:Option Int) (ms:List (Lab×Hop)):Option Int:=ms.foldl (FY g) s
def DX (g:Gr) (l:List Lab):Option Int:=l.foldl (fun s x=>FZ g s (BT g x)) none
theorem Mc {g:Gr}:∀{ms:List (Lab×Hop)} {s:Option Int} {a:Int},FZ g s ms=some a→
  (s=some a∨∃m∈ms,m.1.node=g.rq.dst∧m.1.time=a)∧(∀b,s=some b→a≤b)∧∀m∈ms,m.1.node=g.rq.dst→a≤m.1.time
 |[],s,a,h=>⟨.inl h,fun b hb=>by rw [show FZ g s []=s from rfl] at h;rw [h] at hb;cases hb;exact Int.le_refl _,fun m hm=>by cases hm⟩
 |m::ms,s,a,h=>by
  rw [show FZ g s (m::ms)=FZ g (FY g s m) ms from rfl] at h;obtain ⟨h1,h2,h3⟩:=Mc h;unfold FY at h1 h2;by_cases hc:m.1.node=g.rq.dst∧Od s m.1.time=true
  ·rw [if_pos hc] at h1 h2;have h4:=h2 _ rfl;refine ⟨.inr ?_,fun b hb => ?_,fun m' hm' hd => ?_⟩
   ·rcases h1 with h1|⟨m',h5,h6⟩
    ·exact ⟨m,mem_cons_self ..,hc.1,Option.some.inj h1⟩
    ·exact ⟨m',mem_cons_of_mem _ h5,h6⟩
   ·rw [hb] at hc;have:=hc.2;simp only [Od,decide_eq_true_eq] at this;omega
   ·rcases mem_cons.1 hm' with rfl|hm'
    ·exact h4
    ·exact h3 m' hm' hd
  ·rw [if_neg hc] at h1 h2;refine ⟨?_,h2,fun m' hm' hd => ?_⟩
   ·rcases h1 with h1|⟨m',h5,h6⟩
    ·exact .inl h1
    ·exact .inr ⟨m',mem_cons_of_mem _ h5,h6⟩
   ·rcases mem_cons.1 hm' with rfl|hm'
    ·cases hs:s with
     |none=>rw [hs] at hc;exact (hc ⟨hd,rfl⟩).elim
     |some b=>
      have h5:=h2 b hs;rw [hs] at hc;simp only [hd,true_and,Od,decide_eq_true_eq] at hc;omega
    ·exact h3 m' hm' hd
theorem Md {g:Gr}:∀{ms:List (Lab×Hop)} {s:Option Int},FZ g s ms=none→s=none∧∀m∈ms,m.1.node≠g.rq.dst
 |[],s,h=>⟨h,fun m hm=>by cases hm⟩
 |m::ms,s,h=>by
  rw [show FZ g s (m::ms)=FZ g (FY g s m) ms from rfl] at h;obtain ⟨h1,h2⟩:=Md h;unfold FY at h1;by_cases hc:m.1.node=g.rq.dst∧Od s m.1.time=true
  ·rw [if_pos hc] at h1;cases h1
  ·rw [if_neg hc] at h1;refine ⟨h1,fun m' hm' => ?_⟩;rcases mem_cons.1 hm' with rfl|hm'
   ·intro hd;rw [h1] at hc;exact hc ⟨hd,rfl⟩
   ·exact h2 m' hm'
theorem PA {g:Gr} (s:Option Int) (a b:List (Lab×Hop)):FZ g (FZ g s a) b=FZ g s (a++b):=by unfold FZ;rw [List.foldl_append]
theorem NW (g:Gr):∀(l:List Lab) (s:Option Int),l.foldl (fun s x=>FZ g s (BT g x)) s=FZ g s (l.map (BT g)).flatten
 |[],s=>rfl
 |x::l,s=>by rw [foldl_cons,NW g l,PA,map_cons,flatten_cons]
theorem Mb {g:Gr} {l:List Lab} {a:Int} (h:DX g l=some a):(∃x∈l,∃m∈BT g x,m.1.node=g.rq.dst∧m.1.time=a)∧∀x∈l,∀m∈BT g x,m.1.node=g.rq.dst→a≤m.1.time:=by
 unfold DX at h;rw [NW] at h;obtain ⟨h1,_,h3⟩:=Mc h;refine ⟨?_,fun x hx m hm=>h3 m (mem_flatten.2 ⟨_,mem_map.2 ⟨x,hx,rfl⟩,hm⟩)⟩;rcases h1 with h1|⟨m,h4,h5⟩
 ·cases h1
 ·obtain ⟨_,h6,h7⟩:=mem_flatten.1 h4;obtain ⟨x,hx,rfl⟩:=mem_map.1 h6;exact ⟨x,hx,m,h7,h5⟩
theorem Sd {g:Gr} {l:List Lab} (h:DX g l=none):∀x∈l,∀m∈BT g x,m.1.node≠g.rq.dst:=by unfold DX at h;rw [NW] at h;exact fun x hx m hm=>(Md h).2 m (mem_flatten.2 ⟨_,mem_map.2 ⟨x,hx,rfl⟩,hm⟩)
structure GLe (g g':Gr):Prop where
 rq:g'.rq=g.rq
 Ar:g'.Ar=g.Ar
 cs:∀(k:Nat) (c:AG),g.cs[k]? = some c→∃c':AG,g'.cs[k]? = some c'∧c'.frm=c.frm∧c'.to=c.to∧c'.rng=c.rng
 dur:∀k,k<g.cs.length→g'.dur.getD k 0=g.dur.getD k 0
 hop:∀(k:Nat) (fr fr' b:Int),k<g.cs.length→C3 (g.dur.getD k 0) fr (g.gaps.getD k [])=some b→fr'≤fr→∃b',C3 (g.dur.getD k 0) fr' (g'.gaps.getD k [])=some b'∧b'≤b
theorem RD {g g':Gr} (hl:GLe g g') {x z:Lab} {m:Lab×Hop} (hm:m∈BT g x) (hn:z.node=x.node) (ht:z.to=x.to) (hle:z.time≤x.time) :
  ∃m'∈BT g' z,DP m'.1=DP m.1∧m'.1.time≤m.1.time:=by
 obtain ⟨k,c,r,h1,h2,h3,h4⟩:=FB.1 hm;obtain ⟨b,h5,h6,h7,h8⟩:=H7 h4;obtain ⟨c',hc1,hc2,hc3,hc4⟩:=hl.cs k c h1;have hk:=AN h1;obtain ⟨b',hb1,hb2⟩:=hl.hop k _ (if r.frm>z.time then r.frm else z.time) b hk h5 (by split<;>split<;>omega);have hd:=hl.dur k hk;refine ⟨(⟨c'.to,r.frm,r.to,b'+g'.dur.getD k 0+c'.rng⟩,⟨k,b',b'+g'.dur.getD k 0,b'+g'.dur.getD k 0+c'.rng⟩),FB.2 ⟨k,c',r,hc1,by rw [hc2,h2,hn],?_,?_⟩,?_,?_⟩
 ·unfold Bn at h3 ⊢;rw [hc3,hl.rq,hl.Ar];exact h3
 ·refine mv1_of (by rw [hd];exact hb1) ?_;rw [h6] at h8;simp only [Ew,hl.rq,hd,hc3,hc4,ht] at h8 ⊢;intro hh;apply h8;rcases hh with hh|hh|hh
  ·left;split at hh<;>split<;>simp_all<;>omega
  ·right;left;omega
  ·right;right;exact ⟨hh.1,by omega⟩
 ·rw [h7];simp only [DP,hc3]
 ·rw [h7];simp only [hc4,hd];omega
theorem TG {g g':Gr} (hg:GOk g) (hg':GOk g') (hl:GLe g g') {x:Lab} (h:Reach g x):∃z∈labels g',DP z=DP x∧z.to=x.to∧z.time≤x.time:=by
 have inv:=Kn hg';have hir:∀{y:Lab},Ff g y→Ff g' y:=fun {y} hy=>by unfold Ff at hy ⊢;rw [hl.rq,hl.Ar];exact hy
 induction h with
 |@start x h=>
  have hs:x∈ER g':=by unfold ER at h ⊢;rw [hl.rq,hl.Ar];exact h
  obtain ⟨z,h1,h2,h3⟩:=inv.start x hs;rw [append_nil] at h1;exact ⟨z,h1,h2,Qy hg' (HC hg' (inv.reach z (by simpa using h1))) (hir (J7 hg h)) h2,h3⟩
 |@step x m hx hm hd ih=>
  obtain ⟨z,h1,h2,h3,h4⟩:=ih;have hn:z.node=x.node:=congrArg Prod.fst h2;obtain ⟨m',hm1,hm2,hm3⟩:=RD hl hm hn h3 h4;have hd':m'.1.node≠g'.rq.dst:=by rw [show m'.1.node=m.1.node from congrArg Prod.fst hm2,hl.rq];exact hd
  obtain ⟨y,h5,h6,h7⟩:=inv.clos z h1 m' hm1 hd';rw [append_nil] at h5;have h8:=h6.trans hm2;exact ⟨y,h5,h8,Qy hg' (HC hg' (inv.reach y (by simpa using h5))) (hir (L6 hg hm hd)) h8,by omega⟩
theorem arrM_le {g g':Gr} (hg:GOk g) (hg':GOk g') (hl:GLe g g') {l l':List Lab} (hp:∀x,x∈l↔x∈labels g) (hp':∀x,x∈l'↔x∈labels g') {a:Int} (h:DX g l=some a):∃a',DX g' l'=some a'∧a'≤a:=by
 obtain ⟨⟨x,hx,m,hm,hmd,hmt⟩,_⟩:=Mb h;have hr:Reach g x:=(Kn hg).reach x (by simpa using (hp x).1 hx);obtain ⟨z,h1,h2,h3,h4⟩:=TG hg hg' hl hr;obtain ⟨m',hm1,hm2,hm3⟩:=RD hl hm (congrArg Prod.fst h2) h3 h4;have hd':m'.1.node=g'.rq.dst:=by rw [show m'.1.node=m.1.node from congrArg Prod.fst hm2,hl.rq];exact hmd
 cases ha:DX g' l' with
 |none=>exact (Sd ha z ((hp' z).2 h1) m' hm1 hd').elim
 |some a'=>exact ⟨a',rfl,by have:=(Mb ha).2 z ((hp' z).2 h1) m' hm1 hd';omega⟩
end Ab
namespace Ab
open Go
structure AP where
 node:Int
 frm:Int
 to:Int
 size:Int
 ticket:Int
 deriving DecidableEq
def AP.enc (h:AP):List Tree:=[tI h.node,tI h.frm,tI h.to,tI h.size,tI h.ticket]
structure Lvl where
 at_:Int
 val:Int
 deriving DecidableEq
def Lvl.enc (x:Lvl):List Tree:=[tI x.at_,tI x.val]
def EE (q:List Int) (h:AP):Bool:=decide (0≤h.node∧h.node<q.length∧0≤h.frm∧h.frm<h.to∧h.to≤1099511627776∧1≤h.size∧h.size≤65536∧0≤h.ticket∧h.ticket≤1152921504606846976)
def UF (a b:AP):Int:=if Cr a.node b.node≠0 then Cr a.node b.node else if Cr a.frm b.frm≠0 then Cr a.frm b.frm else if Cr a.to b.to≠0 then Cr a.to b.to else if Cr a.ticket b.ticket≠0 then Cr a.ticket b.ticket else Cr a.size b.size
def CZ (a b:AP):Bool:=if a.node≠b.node then decide (a.node<b.node) else if a.frm≠b.frm then decide (a.frm<b.frm) else if a.to≠b.to then decide (a.to<b.to) else if a.ticket≠b.ticket then decide (a.ticket<b.ticket) else decide (a.size<b.size)
theorem MW (a b:AP):UF a b>0↔CZ b a=true:=by unfold UF CZ Cr;grind
theorem cmpH_lt (a b:AP):UF a b<0↔CZ a b=true:=by unfold UF CZ Cr;grind
theorem RO (t n v:Int):∀(es:List (Int×Int)),As t (BK n v es)=if t=n then some v else As t es
 |[]=>by simp only [BK,As]
 |p::l=>by
  simp only [BK];by_cases h:n=p.1
  ·rw [if_pos h];simp only [As];by_cases ht:t=n
   ·rw [if_pos ht,if_pos ht]
   ·rw [if_neg ht,if_neg ht,if_neg (by rw [← h];exact ht)]
  ·rw [if_neg h];simp only [As];by_cases ht:t=p.1
   ·rw [if_pos ht,if_pos ht,if_neg (by omega)]
   ·rw [if_neg ht,if_neg ht,RO t n v l]
theorem get_none {t:Int}:∀{es:List (Int×Int)},As t es=none↔t∉es.map (·.1)
 |[]=>by simp [As]
 |p::l=>by
  simp only [As,map_cons,mem_cons,not_or];by_cases h:t=p.1
  ·simp [h]
  ·rw [if_neg h,get_none (es:=l)];simp [h]
theorem OA (n v:Int):∀(es:List (Int×Int)),(BK n v es).map (·.1)=if n∈es.map (·.1) then es.map (·.1) else es.map (·.1)++[n]
 |[]=>by simp [BK]
 |p::l=>by
  simp only [BK];by_cases h:n=p.1
  ·rw [if_pos h,if_pos (by simp [h])];simp [h]
  ·rw [if_neg h];simp only [map_cons,mem_cons,OA n v l];by_cases hm:n∈l.map (·.1)
   ·rw [if_pos hm,if_pos (.inr hm)]
   ·rw [if_neg hm,if_neg (by simp only [not_or];exact ⟨h,hm⟩)];rfl
def DG (es:List (Int×Int)) (t:Int):Int:=(As t es).getD 0
def Dc (es:List (Int×Int)) (t n:Int):List (Int×Int):=BK t (w64 (DG es t+n)) es
theorem KX (es:List (Int×Int)) (t n s:Int):DG (Dc es t n) s=if s=t then w64 (DG es t+n) else DG es s:=by
 unfold Dc;rw [DG,RO];split
 ·rfl
 ·rfl
theorem Iq (es:List (Int×Int)) (t n:Int):(Dc es t n).map (·.1)=if t∈es.map (·.1) then es.map (·.1) else es.map (·.1)++[t]:=OA _ _ _
def Bo (node:Int) (es:List (Int×Int)) (h:AP):List (Int×Int):=if h.node=node then Dc (Dc es h.frm h.size) h.to (w64 (0-h.size)) else es
def K8 (node:Int) (l:List AP):List (Int×Int):=l.foldl (Bo node) []
def dzH (node t:Int) (h:AP):Int:=if h.node=node then (if h.frm=t then h.size else 0)-(if h.to=t then h.size else 0) else 0
def Ct (f:AP→Int):List AP→Int
 |[]=>0
 |h::l=>f h+Ct f l
def HX (l:List AP):Prop:=∀h∈l,1≤h.size∧h.size≤65536∧0≤h.frm∧h.frm<h.to
theorem HX.tail {h:AP} {l:List AP} (hs:HX (h::l)):HX l:=fun x hx=>hs x (mem_cons_of_mem _ hx)
theorem J1 {f:AP→Int}:∀{l:List AP},(∀h∈l,-65536≤f h∧f h≤65536)→ -65536*(l.length:Int)≤Ct f l∧Ct f l≤65536*(l.length:Int)
 |[],_=>by simp [Ct]
 |h::l,hf=>by have h1:=hf h (mem_cons_self ..);have h2:=J1 (l:=l) fun x hx=>hf x (mem_cons_of_mem _ hx);simp only [Ct,length_cons];omega
theorem Tv {node t:Int} {h:AP} (hs:1≤h.size∧h.size≤65536∧0≤h.frm∧h.frm<h.to) : -65536≤dzH node t h∧dzH node t h≤65536:=by unfold dzH;grind
theorem RW (node:Int):∀(l:List AP) (es:List (Int×Int)) (B:Int),HX l→(∀t,-B≤DG es t∧DG es t≤B)→B+131072*(l.length:Int)≤4611686018427387904→∀t,DG (l.foldl (Bo node) es) t=DG es t+Ct (dzH node t) l
 |[],es,B,_,_,_,t=>by simp [Ct]
 |h::l,es,B,hs,hB,hl,t=>by
  have h1:=hs h (mem_cons_self ..);simp only [length_cons] at hl;rw [foldl_cons];have hw:w64 (0-h.size)= - h.size:=by rw [w64,Hb]<;>omega
  have hv:∀s,DG (Bo node es h) s=DG es s+dzH node s h:=fun s=>by
   unfold Bo dzH;by_cases hn:h.node=node
   ·rw [if_pos hn,if_pos hn,KX,KX,hw];have hb1:=hB h.frm;have hb2:=hB h.to;have hb3:=hB s;have e1:w64 (DG es h.frm+h.size)=DG es h.frm+h.size:=by rw [w64,Hb]<;>omega
    rw [KX,e1,if_neg (show ¬h.to=h.frm by omega)];have e2:w64 (DG es h.to + -h.size)=DG es h.to-h.size:=by rw [w64,Hb]<;>omega
    rw [e2];by_cases ha:s=h.to
    ·subst ha;rw [if_pos rfl,if_neg (show ¬h.frm=h.to by omega),if_pos rfl];omega
    ·rw [if_neg ha];by_cases hb:s=h.frm
     ·subst hb;rw [if_pos rfl,if_pos rfl,if_neg (fun e=>ha e.symm)];omega
     ·rw [if_neg hb,if_neg (fun e=>hb e.symm),if_neg (fun e=>ha e.symm)];omega
   ·rw [if_neg hn,if_neg hn];omega
  rw [RW node l (Bo node es h) (B+65536) hs.tail (fun s=>by rw [hv s];have:=hB s;have:=Tv (node:=node) (t:=s) h1;omega) (by omega) t,hv t,Ct];omega
theorem O1 (node:Int):∀(l:List AP) (es:List (Int×Int)),(es.map (·.1)).Nodup→((l.foldl (Bo node) es).map (·.1)).Nodup∧∀t,t∈(l.foldl (Bo node) es).map (·.1)↔t∈es.map (·.1)∨∃h∈l,h.node=node∧(t=h.frm∨t=h.to)
 |[],es,hn=>⟨hn,fun t=>by simp⟩
 |h::l,es,hn=>by
  rw [foldl_cons];have one:∀(es:List (Int×Int)) (t n:Int),(es.map (·.1)).Nodup→((Dc es t n).map (·.1)).Nodup∧∀s,s∈(Dc es t n).map (·.1)↔s∈es.map (·.1)∨s=t:=fun es t n hn=>by
   rw [Iq];split
   ·rename_i hm;refine ⟨hn,fun s=>⟨.inl,?_⟩⟩
    rintro (h|rfl)
    ·exact h
    ·exact hm
   ·rename_i hm;refine ⟨?_,fun s=>by simp⟩;rw [nodup_append];refine ⟨hn,by simp,fun a ha b hb e => ?_⟩;cases mem_singleton.1 hb;exact hm (e ▸ ha)
  have hst:((Bo node es h).map (·.1)).Nodup∧∀t,t∈(Bo node es h).map (·.1)↔t∈es.map (·.1)∨h.node=node∧(t=h.frm∨t=h.to):=by
   unfold Bo;by_cases hc:h.node=node
   ·rw [if_pos hc];obtain ⟨a1,a2⟩:=one es h.frm h.size hn;obtain ⟨b1,b2⟩:=one _ h.to (w64 (0-h.size)) a1;refine ⟨b1,fun t => ?_⟩;rw [b2,a2];simp only [hc,true_and];exact or_assoc
   ·rw [if_neg hc];exact ⟨hn,fun t=>by simp [hc]⟩
  obtain ⟨h1,h2⟩:=O1 node l _ hst.1;refine ⟨h1,fun t => ?_⟩;rw [h2,hst.2];simp only [mem_cons,exists_eq_or_imp];exact or_assoc
def IB (es:List (Int×Int)):List Int→Int→List Lvl
 |[],_=>[]
 |t::l,s=>if DG es t=0 then IB es l s else ⟨t,w64 (s+DG es t)⟩::IB es l (w64 (s+DG es t))
def Bj (l:List Int):List Int:=l.mergeSort fun x y=>decide (x≤y)
def levels (l:List AP) (node:Int):List Lvl:=IB (K8 node l) (Bj ((K8 node l).map (·.1))) 0
theorem FK (l:List Int):(Bj l).Perm l:=List.mergeSort_perm l _
theorem N7 (l:List Int):(Bj l).Pairwise (· ≤·):=by have:=List.pairwise_mergeSort (le:=fun x y:Int=>decide (x≤y)) (fun a b c h1 h2=>by simp at *;omega) (fun a b=>by simp;omega) l;exact this.imp fun h=>by simpa using h
theorem N8 {l:List Int} (h:l.Nodup):(Bj l).Pairwise (· < ·):=by have h1:=N7 l;have h2:(Bj l).Nodup:=(FK l).nodup_iff.2 h;exact (h1.and h2).imp fun h=>by omega
def upTo (node t:Int) (h:AP):Int:=if h.node=node then (if h.frm≤t then h.size else 0)-(if h.to≤t then h.size else 0) else 0
def stH (node t:Int) (h:AP):Int:=if h.node=node∧h.frm≤t∧t<h.to then h.size else 0
def stored (l:List AP) (node t:Int):Int:=Ct (stH node t) l
theorem Df {f g:AP→Int}:∀{l:List AP},(∀h∈l,f h=g h)→Ct f l=Ct g l
 |[],_=>rfl
 |h::l,e=>by rw [Ct,Ct,e h (mem_cons_self ..),Df fun x hx=>e x (mem_cons_of_mem _ hx)]
theorem N1 {f g:AP→Int}:∀(l:List AP),Ct (fun h=>f h+g h) l=Ct f l+Ct g l
 |[]=>rfl
 |h::l=>by simp only [Ct,N1 l];omega
theorem Mm {f g:AP→Int}:∀{l:List AP},(∀h∈l,f h≤g h)→Ct f l≤Ct g l
 |[],_=>Int.le_refl _
 |h::l,e=>by have:=e h (mem_cons_self ..);have:=Mm (l:=l) fun x hx=>e x (mem_cons_of_mem _ hx);simp only [Ct];omega
theorem Qv {l:List AP} (hs:HX l) (node t:Int):Ct (upTo node t) l=stored l node t:=Df fun h hh=>by have:=hs h hh;unfold upTo stH;grind
theorem N5 {l:List AP} (hs:HX l) (node t:Int):0≤stored l node t∧stored l node t≤65536*(l.length:Int):=by
 have h1:=J1 (f:=stH node t) (l:=l) fun h hh=>by have:=hs h hh;unfold stH;split<;>omega
 refine ⟨?_,h1.2⟩;have h2:=Mm (f:=fun _=>0) (g:=stH node t) (l:=l) fun h hh=>by have:=hs h hh;unfold stH;split<;>omega
 have h3:∀(l:List AP),Ct (fun _=>0) l=0:=fun l=>by induction l with
  |nil=>rfl
  |cons a l ih=>simp [Ct,ih]
 rw [h3] at h2;exact h2
theorem st_next {l:List AP} (hs:HX l) {node lo t:Int} (hlt:lo<t) (hk:∀h∈l,h.node=node→(h.frm≤lo∨t≤h.frm)∧(h.to≤lo∨t≤h.to)):stored l node t=stored l node lo+Ct (dzH node t) l:=by rw [← Qv hs,← Qv hs,← N1];refine Df fun h hh => ?_;have h1:=hs h hh;have h2:=hk h hh;unfold upTo dzH;grind
theorem It {l:List AP} (hs:HX l) (hlen:l.length≤10000) {node:Int} {es:List (Int×Int)} (hes:∀t,DG es t=Ct (dzH node t) l):∀(ts:List Int) (lo s:Int),ts.Pairwise (· < ·)→(∀t∈ts,lo<t)→
  (∀h∈l,h.node=node→(h.frm≤lo∨h.frm∈ts)∧(h.to≤lo∨h.to∈ts))→s=stored l node lo→
  (∀x∈IB es ts s,x.at_∈ts∧x.val=stored l node x.at_)∧(IB es ts s).Pairwise (fun x y=>x.at_<y.at_)
 |[],lo,s,_,_,_,_=>⟨fun x hx=>by simp [IB] at hx,by simp [IB]⟩
 |t::ts,lo,s,hp,hlo,hk,hS=>by
  rw [pairwise_cons] at hp;have hlt:=hlo t (mem_cons_self ..);have hge:∀x∈t::ts,t≤x:=fun x hx=>by
   rcases mem_cons.1 hx with rfl|hx
   ·exact Int.le_refl _
   ·exact Int.le_of_lt (hp.1 x hx)
  have hnx:=st_next hs (node:=node) hlt fun h hh hn=>by obtain ⟨h1,h2⟩:=hk h hh hn;exact ⟨h1.imp id (hge _),h2.imp id (hge _)⟩
  have hk':∀h∈l,h.node=node→(h.frm≤t∨h.frm∈ts)∧(h.to≤t∨h.to∈ts):=fun h hh hn=>by
   obtain ⟨h1,h2⟩:=hk h hh hn;constructor
   ·rcases h1 with h1|h1
    ·exact .inl (by omega)
    ·rcases mem_cons.1 h1 with h1|h1
     ·exact .inl (by omega)
     ·exact .inr h1
   ·rcases h2 with h1|h1
    ·exact .inl (by omega)
    ·rcases mem_cons.1 h1 with h1|h1
     ·exact .inl (by omega)
     ·exact .inr h1
  unfold IB;rw [← hes t] at hnx;by_cases h0:DG es t=0
  ·rw [if_pos h0];obtain ⟨a1,a2⟩:=It hs hlen hes ts t s hp.2 hp.1 hk' (by omega);exact ⟨fun x hx=>⟨mem_cons_of_mem _ (a1 x hx).1,(a1 x hx).2⟩,a2⟩
  ·rw [if_neg h0];have hb:=N5 hs node t;have hw:w64 (s+DG es t)=stored l node t:=by rw [w64,Hb]<;>omega
   obtain ⟨a1,a2⟩:=It hs hlen hes ts t (w64 (s+DG es t)) hp.2 hp.1 hk' hw;refine ⟨fun x hx => ?_,?_⟩
   ·rcases mem_cons.1 hx with rfl|hx
    ·exact ⟨mem_cons_self ..,hw⟩
    ·exact ⟨mem_cons_of_mem _ (a1 x hx).1,(a1 x hx).2⟩
   ·rw [pairwise_cons];exact ⟨fun y hy=>hp.1 _ (a1 y hy).1,a2⟩
theorem st_neg {l:List AP} (hs:HX l) {node t:Int} (ht:t<0):stored l node t=0:=by
 have:stored l node t=Ct (fun _=>0) l:=Df fun h hh=>by have:=hs h hh;unfold stH;rw [if_neg (by omega)]
 rw [this]
 induction l with
 |nil=>rfl
 |cons a l ih=>
  simp only [Ct,Int.zero_add];exact ih hs.tail (Df fun h hh=>by have:=hs.tail h hh;unfold stH;rw [if_neg (by omega)])
theorem R9 {l:List AP} (hs:HX l) (hlen:l.length≤10000) (node:Int):∀t,DG (K8 node l) t=Ct (dzH node t) l:=fun t=>by have:=RW node l [] 0 hs (fun s=>by simp [DG,As]) (by omega) t;rw [K8,this];simp [DG,As]
theorem OQ {l:List AP} (node:Int):(Bj ((K8 node l).map (·.1))).Pairwise (· < ·)∧∀t,t∈Bj ((K8 node l).map (·.1))↔∃h∈l,h.node=node∧(t=h.frm∨t=h.to):=by obtain ⟨h1,h2⟩:=O1 node l [] (by simp);refine ⟨N8 h1,fun t => ?_⟩;rw [(FK _).mem_iff];rw [K8,h2];simp
theorem GA {l:List AP} (hs:HX l) (hlen:l.length≤10000) (node:Int):(∀x∈levels l node,(∃h∈l,h.node=node∧(x.at_=h.frm∨x.at_=h.to))∧0≤x.at_∧x.val=stored l node x.at_)∧(levels l node).Pairwise (fun x y=>x.at_<y.at_):=by
 obtain ⟨k1,k2⟩:=OQ (l:=l) node;have h0:∀t∈Bj ((K8 node l).map (·.1)),-1<t:=fun t ht=>by obtain ⟨h,h1,h2,h3⟩:=(k2 t).1 ht;have:=hs h h1;omega
 have hst:=It hs hlen (R9 hs hlen node) (Bj ((K8 node l).map (·.1))) (-1) 0 k1 h0
  (fun h hh hn=>⟨.inr ((k2 _).2 ⟨h,hh,hn,.inl rfl⟩),.inr ((k2 _).2 ⟨h,hh,hn,.inr rfl⟩)⟩) (st_neg hs (by omega)).symm
 refine ⟨fun x hx => ?_,hst.2⟩;obtain ⟨h1,h2⟩:=hst.1 x hx;have:=h0 _ h1;exact ⟨(k2 _).1 h1,by omega,h2⟩
theorem PW {l:List AP} (hs:HX l) {node Q:Int} (hQ:0≤Q) (hf:∀h∈l,h.node=node→stored l node h.frm≤Q) (t:Int):stored l node t≤Q:=by
 have key:∀(m:List AP),(∀h∈m,h∈l)→(∃a∈m,a.node=node∧a.frm≤t∧t<a.to)→∃a∈l,a.node=node∧a.frm≤t∧t<a.to∧∀h∈m,h.node=node→h.frm≤t→t<h.to→h.frm≤a.frm:=by
  intro m
  induction m with
  |nil=>rintro _ ⟨a,ha,_⟩;cases ha
  |cons b m ih=>
   intro hm hex;by_cases hr:∃a∈m,a.node=node∧a.frm≤t∧t<a.to
   ·obtain ⟨a,a1,a2,a3,a4,a5⟩:=ih (fun h hh=>hm h (mem_cons_of_mem _ hh)) hr;by_cases hb:b.node=node∧b.frm≤t∧t<b.to∧a.frm<b.frm
    ·refine ⟨b,hm b (mem_cons_self ..),hb.1,hb.2.1,hb.2.2.1,fun h hh h1 h2 h3 => ?_⟩;rcases mem_cons.1 hh with rfl|hh
     ·exact Int.le_refl _
     ·have:=a5 h hh h1 h2 h3;omega
    ·refine ⟨a,a1,a2,a3,a4,fun h hh h1 h2 h3 => ?_⟩;rcases mem_cons.1 hh with rfl|hh
     ·by_cases hc:h.frm≤a.frm
      ·exact hc
      ·exact (hb ⟨h1,h2,h3,by omega⟩).elim
     ·exact a5 h hh h1 h2 h3
   ·obtain ⟨a,ha,h1,h2,h3⟩:=hex;rcases mem_cons.1 ha with rfl|ha
    ·refine ⟨a,hm a (mem_cons_self ..),h1,h2,h3,fun h hh g1 g2 g3 => ?_⟩;rcases mem_cons.1 hh with rfl|hh
     ·exact Int.le_refl _
     ·exact (hr ⟨h,hh,g1,g2,g3⟩).elim
    ·exact (hr ⟨a,ha,h1,h2,h3⟩).elim
 by_cases hex:∃a∈l,a.node=node∧a.frm≤t∧t<a.to
 ·obtain ⟨a,a1,a2,a3,a4,a5⟩:=key l (fun _ h=>h) hex;refine Int.le_trans (Mm fun h hh => ?_) (hf a a1 a2);have h1:=hs h hh;have h2:=a5 h hh;unfold stH;grind
 ·have:stored l node t=Ct (fun _=>0) l:=Df fun h hh=>by unfold stH;rw [if_neg fun hc=>hex ⟨h,hh,hc⟩]
  have h3:∀(l:List AP),Ct (fun _=>0) l=0:=fun l=>by induction l with
   |nil=>rfl
   |cons a l ih=>simp [Ct,ih]
  rw [this,h3];exact hQ
def G1 (l:List Lvl):Int:=l.foldl (fun n x=>if x.val>n then x.val else n) 0
theorem RE {Q:Int}:∀(l:List Lvl) (n:Int),n≤Q→(∀x∈l,x.val≤Q)→l.foldl (fun n x=>if x.val>n then x.val else n) n≤Q
 |[],n,h,_=>h
 |x::l,n,h,hl=>by rw [foldl_cons];refine RE l _ ?_ fun y hy=>hl y (mem_cons_of_mem _ hy);have:=hl x (mem_cons_self ..);split<;>omega
def Bl (q:List Int) (l:List AP) (i:Nat) (_:Unit) (h:AP):Rd Unit Int:=
 if EE q h=false then .done 2 else if i=0 then .next () else match l[i-1]? with
  |some a=>if CZ h a=true then .done 9 else .next ()
  |none =>.next ()
def GF (q:List Int) (l:List AP):Int:=A9 (Bl q l) (fun _=>0) 0 l ()
def EY (l:List AP) (i:Nat) (_:Unit) (Q:Int):Rd Unit Int:=if G1 (levels l i)>Q then .done 15 else .next ()
def Bi (q:List Int) (cs:List AG) (l:List AP):Int:=
 if AQ q cs≠0 then 1 else if l.length>512 then 4 else if GF q l≠0 then GF q l else A9 (EY l) (fun _=>0) 0 q ()
def MM (q:List Int) (l:List AP):Bool:=l.all fun h=>decide (stored l h.node h.frm≤q.getD h.node.toNat 0)
def DL (q:List Int) (cs:List AG) (l:List AP):Int:=
 if AQ q cs≠0 then 1 else if l.length>512 then 4 else if GF q l≠0 then GF q l else if MM q l=true then 0 else 15
theorem Tm {q:List Int} {l:List AP} (h:GF q l=0):∀x∈l,EE q x=true:=fun x hx=>by
 obtain ⟨j,hj,rfl⟩:=mem_iff_getElem.1 hx;have:=EL (step:=Bl q l) (fun i x r hd=>by
  unfold Bl at hd;split at hd
  ·cases hd;decide
  ·split at hd
   ·cases hd
   ·split at hd
    ·split at hd
     ·cases hd;decide
     ·cases hd
    ·cases hd) l 0 h j l[j] (getElem?_eq_getElem hj)
 unfold Bl at this;split at this
 ·cases this
 ·rename_i hc;simpa using hc
theorem IH {q:List Int} {h:AP} (hv:EE q h=true):0≤h.node∧h.node<q.length∧0≤h.frm∧h.frm<h.to∧h.to≤1099511627776∧1≤h.size∧h.size≤65536∧0≤h.ticket∧h.ticket≤1152921504606846976:=by unfold EE at hv;simpa using hv
theorem Ml {q:List Int} {l:List AP} (h:GF q l=0):HX l:=fun x hx=>by have:=IH (Tm h x hx);omega
theorem Hv {q:List Int} {cs:List AG} (h:AQ q cs=0):∀Q∈q,0≤Q∧Q≤1073741824:=fun Q hQ=>by
 unfold AQ at h;split at h
 ·cases h
 ·split at h
  ·rename_i hq;have:=all_eq_true.1 hq Q hQ;unfold qOk at this;simpa using this
  ·cases h
theorem Mn {q:List Int} {cs:List AG} {l:List AP} (h:DL q cs l=0):AQ q cs=0∧l.length≤512∧GF q l=0∧MM q l=true:=by
 unfold DL at h;split at h
 ·cases h
 ·split at h
  ·cases h
  ·split at h
   ·contradiction
   ·split at h
    ·rename_i h1 h2 h3 h4;exact ⟨by omega,by omega,by omega,h4⟩
    ·cases h
theorem MJ {l:List AP}:∀(q:List Int) (i:Nat),(∀(j:Nat) Q,q[j]? = some Q→G1 (levels l (i+j:Nat))≤Q)→A9 (EY l) (fun _=>0) i q ()=0
 |[],_,_=>rfl
 |Q::q,i,h=>by
  have h0:=h 0 Q rfl;rw [add_zero] at h0;have e:EY l i () Q = .next ():=by rw [EY,if_neg (by omega)]
  rw [A9,e];refine MJ q (i+1) fun j Q' hj => ?_;have:=h (j+1) Q' (by simpa using hj);rwa [show i+(j+1)=i+1+j by omega] at this
theorem N2 {q:List Int} {cs:List AG} {l:List AP} (h:DL q cs l=0):Bi q cs l=0:=by obtain ⟨h1,h2,h3,h4⟩:=Mn h;have hs:=Ml h3;have hq:=Hv h1;unfold Bi;rw [if_neg (by omega),if_neg (by omega),if_neg (by omega)];refine MJ q 0 fun j Q hj => ?_;rw [zero_add];have hQ:=hq Q (mem_of_getElem? hj);unfold G1;refine RE _ _ hQ.1 fun x hx => ?_;rw [((GA hs (by omega) (j:Nat)).1 x hx).2.2];refine PW hs hQ.1 (fun a ha hn => ?_) _;have:=all_eq_true.1 h4 a ha;simp only [decide_eq_true_eq] at this;rw [hn] at this;simp only [toNat_natCast,List.getD,hj,Option.getD_some] at this;exact this
theorem D1 {q:List Int} {cs:List AG} {l:List AP} (h:Bi q cs l=0):AQ q cs=0∧l.length≤512∧GF q l=0:=by
 unfold Bi at h;split at h
 ·cases h
 ·split at h
  ·cases h
  ·split at h
   ·contradiction
   ·exact ⟨by omega,by omega,by omega⟩
theorem Gt {q:List Int} {cs cs':List AG} {l:List AP} (h:AQ q cs=0) (h':AQ q cs'=0):Bi q cs l=Bi q cs' l:=by unfold Bi;rw [h,h']
end Ab
namespace Ab
open Go
theorem TA (es:List (List Tree)) (hl:es.length≤1073741824):Af C 1000106 [.sl 5 es] [.sl 5 es]:=by
 refine Af.of (fun n=>Ts n _) (Ev.of fun n => ?_);by_cases h:es.length=0
 ·have:es=[]:=eq_nil_of_length_eq_zero h;subst this;simp [AI,I7]
 ·rw [Cj h,Cj hl,take_of_length_le (le_refl _)]
theorem s95 (q:List Int) (cs:List AG) (h:AP):Af C 95 [.sl 1 (q.map encI),.sl 7 (cs.map AG.enc),tI h.node,tI h.frm,tI h.to,tI h.size,tI h.ticket] [.bool (EE q h)]:=by refine Af.of (fun n=>e95 n _ _ _ _ _ _ _) (Ev.of fun n => ?_);simp only [vv,reduceCtorEq,reduceAdd,reduceEqDiff,EE,AI];grind
theorem s109 (q:List Int) (cs:List AG) (h:AP):Af C 109 [.sl 1 (q.map encI),.sl 7 (cs.map AG.enc),tI h.node,tI h.frm,tI h.to,tI h.size,tI h.ticket] [.bool (EE q h)]:=by refine Af.of (fun n=>e109 n _ _ _ _ _ _ _) (Ev.of fun n => ?_);simp only [vv,reduceCtorEq,reduceAdd,reduceEqDiff,EE,AI];grind
theorem find5 (a b c d e:Int):(([a,b,c,d,e]).find? (· ≠ 0)).getD 0=if a≠0 then a else if b≠0 then b else if c≠0 then c else if d≠0 then d else e:=by by_cases h1:a=0<;>by_cases h2:b=0<;>by_cases h3:c=0<;>by_cases h4:d=0<;>by_cases h5:e=0<;>simp [h1,h2,h3,h4,h5]
theorem s96 (a b:AP):Af C 96 (a.enc++b.enc) [tI (UF a b)]:=by refine Af.of (fun n=>e96 n _ _ _ _ _ _ _ _ _ _) ?_;refine ((s35 a.node b.node).and ((s35 a.frm b.frm).and ((s35 a.to b.to).and ((s35 a.ticket b.ticket).and ((s35 a.size b.size).and (s34 [Cr a.node b.node,Cr a.frm b.frm,Cr a.to b.to,Cr a.ticket b.ticket,Cr a.size b.size] (by simp))))))).mono fun n ⟨h1,h2,h3,h4,h5,h6⟩=> ?_;simp only [map_cons,map_nil,encI] at h6;rw [find5] at h6;simp only [h1,h2,h3,h4,h5,h6,vv,reduceCtorEq,reduceAdd,reduceEqDiff];rfl
theorem s110 (a b:AP):Af C 110 (a.enc++b.enc) [.bool (CZ a b)]:=by refine Af.of (fun n=>e110 n _ _ _ _ _ _ _ _ _ _) (Ev.of fun n => ?_);simp only [vv,reduceCtorEq,reduceAdd,reduceEqDiff,CZ,AI,bne_iff_ne];grind
theorem s97 (l:List Lvl) (hl:l.length≤1000000):Af C 97 [.sl 2 (l.map Lvl.enc)] [tI (G1 l)]:=by
 refine Af.of (fun n=>e97 n _) ?_;refine An (fun r=>[tI r]) l (fun i (s:Int)=>(([.t (tI s),.t (tI i)],[]):List AV×Heap)) (fun i s x =>.next (if x.val>s then x.val else s)) (fun s=>s) (fun _ _=>True) 0 rfl trivial ?_
  (fun i s x hx hI=>Ev.of fun n again => ?_) (fun _ _ _ _ _ _ _=>trivial) (fun s hI=>Ev.of fun n again => ?_)
 ·rw [CJ];rfl
 ·have hi:=AN hx;simp only [vv,reduceCtorEq,reduceAdd,reduceEqDiff,hx,Lvl.enc,Rd.Ae,AY (show i<4611686018427387904 by omega),(show (i:Int)<l.length by omega)]
 ·simp only [vv,reduceCtorEq,reduceAdd,reduceEqDiff,lt_irrefl]
theorem s162 (l:List AP) (node t:Int) (hl:l.length≤10000) (hs:HX l):Af C 162 [.sl 5 (l.map AP.enc),tI node,tI t] [tI (stored l node t)]:=by
 refine Af.of (fun n=>e162 n _ _ _) ?_;refine An (fun r=>[tI r]) l (fun i (s:Int)=>(([.t (tI s),.t (tI i)],[]):List AV×Heap)) (fun i s x =>.next (s+stH node t x)) (fun s=>s) (fun i s=>0≤s∧s≤65536*(i:Int)∧i≤l.length) 0 rfl (by simp) ?_
  (fun i s x hx hI=>Ev.of fun n again => ?_) (fun i s x s' hx hI h => ?_) (fun s hI=>Ev.of fun n again => ?_)
 ·rw [CJ];have:∀(l:List AP) (s:Int),l.foldl (fun s x=>s+stH node t x) s=s+Ct (stH node t) l:=fun l=>by
   induction l with
   |nil=>intro s;simp [Ct]
   |cons a l ih=>intro s;rw [foldl_cons,ih,Ct];omega
  rw [this,stored];omega
 ·have hi:=AN hx;have h1:=hs x (mem_of_getElem? hx);simp only [vv,reduceCtorEq,reduceAdd,reduceEqDiff,hx,AP.enc,Rd.Ae,AY (show i<4611686018427387904 by omega),(show (i:Int)<l.length by omega),A6 (x:=s+x.size) (by omega) (by omega)];simp only [stH,AI];by_cases k1:x.node=node<;>by_cases k2:x.frm≤t<;>by_cases k3:t<x.to<;>simp [k1,k2,k3]
 ·have hi:=AN hx;have h1:=hs x (mem_of_getElem? hx);simp only [Rd.next.injEq] at h;subst h;unfold stH;split<;>omega
 ·simp only [vv,reduceCtorEq,reduceAdd,reduceEqDiff,lt_irrefl]
theorem Rq (l:List Int):Ei (l.map encI)=(Bj l).map encI:=by
 have h1:(l.map encI).map oneI=l:=by rw [map_map];exact (map_congr_left fun a _=>rfl).trans (map_id l)
 unfold Ei Bj;rw [h1];rfl
theorem OX (l:List Int):Av 1 (l.map encI)=true:=by simp [Av,encI,G2]
theorem FM {es new:List (List Tree)} (h:new.length=es.length):A0 es 0 new=new:=by simp [A0,h]
theorem NH {t:Int} {es:List (Int×Int)}:(As t es).isSome=decide (t∈es.map (·.1)):=by
 cases h:As t es with
 |none=>
  have:=get_none.1 h;simp only [isSome_none];exact (decide_eq_false this).symm
 |some v=>
  have:t∈es.map (·.1):=by refine Classical.byContradiction fun hn => ?_;rw [get_none.2 hn] at h;cases h
  simp only [isSome_some];exact (decide_eq_true this).symm
theorem KY (es:List (Int×Int)) (t n:Int):(Dc es t n).length=es.length+if t∈es.map (·.1) then 0 else 1:=by have:=congrArg length (Iq es t n);rw [length_map] at this;rw [this];split<;>simp
theorem R4 (es:List (Int×Int)) (t n:Int):(Dc es t n).map (fun p=>encI p.1)=es.map (fun p=>encI p.1)++if t∈es.map (·.1) then [] else [encI t]:=by
 have h1:∀es:List (Int×Int),es.map (fun p=>encI p.1)=(es.map (·.1)).map encI:=fun es=>by rw [map_map];rfl
 rw [h1,h1,Iq];split<;>simp
def UI (i:Nat) (es:List (Int×Int)):List AV×Heap:=([.t (tI i)],[.mapo .i64 .i64 es,.box [.mref 0],.row false es.length 1 (es.map fun p=>encI p.1),.box [.sref 2 es.length 0 es.length]])
def RH (es:List (Int×Int)) (ks:List Int) (i:Nat) (s:Int×List Lvl):List AV×Heap:=([.t (tI s.1),.sref 4 s.2.length 0 s.2.length,.t (tI i)],[.mapo .i64 .i64 es,.box [.mref 0],.row false ks.length 1 (ks.map encI),.box [.sref 2 ks.length 0 ks.length],.row false s.2.length 2 (s.2.map Lvl.enc)])
def IA (es:List (Int×Int)) (_:Nat) (s:Int×List Lvl) (t:Int):Rd (Int×List Lvl) (List Lvl):=.next (if DG es t=0 then s else (w64 (s.1+DG es t),s.2++[⟨t,w64 (s.1+DG es t)⟩]))
theorem M7 (es:List (Int×Int)):∀(ks:List Int) (i:Nat) (s:Int) (out:List Lvl),A9 (IA es) (fun s=>s.2) i ks (s,out)=out++IB es ks s
 |[],i,s,out=>by simp [A9,IB]
 |t::ks,i,s,out=>by
  unfold A9 IA IB;simp only;by_cases h:DG es t=0
  ·rw [if_pos h,if_pos h];exact M7 es ks (i+1) s out
  ·rw [if_neg h,if_neg h];refine (M7 es ks (i+1) _ _).trans ?_;rw [append_assoc];rfl
theorem Ki (es:List (Int×Int)):∀(ks:List Int) (s:Int),(IB es ks s).length≤ks.length
 |[],s=>le_refl _
 |t::ks,s=>by
  unfold IB;split
  ·exact Nat.le_succ_of_le (Ki es ks s)
  ·exact Nat.succ_le_succ (Ki es ks _)
theorem Jf (node:Int) (es:List (Int×Int)) (h:AP):(Bo node es h).length≤es.length+2:=by
 unfold Bo;split
 ·rw [KY,KY];split<;>split<;>omega
 ·omega
theorem UJ (node:Int) (l:List AP):(K8 node l).length≤2*l.length:=by
 have:∀(l:List AP) (es:List (Int×Int)),(l.foldl (Bo node) es).length≤es.length+2*l.length:=fun l=>by
  induction l with
  |nil=>intro es;simp
  |cons a l ih=>
   intro es;rw [foldl_cons];have h1:=ih (Bo node es a);have h2:=Jf node es a;simp only [length_cons];omega
 have:=this l [];simpa [K8] using this
theorem FR (l:List AP) (node:Int):(levels l node).length≤2*l.length:=by unfold levels;refine le_trans (Ki _ _ _) ?_;rw [(FK _).length_eq,length_map];exact UJ node l
theorem s98 (l:List AP) (node:Int) (hl:l.length≤10000):Af C 98 [.sl 5 (l.map AP.enc),tI node] [.sl 2 ((levels l node).map Lvl.enc)]:=by
 refine Af.of (fun n=>e98 n _ _) ?_;refine An (fun (r:List Lvl)=>[Tree.sl 2 (r.map Lvl.enc)]) l UI (fun i es x =>.next (Bo node es x)) (fun es=>IB es (Bj (es.map (·.1))) 0) (fun i es=>es.length≤2*i∧i≤l.length) [] rfl (by simp) ?_
  (fun i es x hx hI=>Ev.of fun n again => ?_) (fun i es x s' hx hI h => ?_) (fun es hI => ?_)
 ·rw [CJ];rfl
 ·have hi:=AN hx;have b1:es.length+1≤1073741824:=by omega
  have b2:es.length+2≤1073741824:=by omega
  have t1:∀(f:Int×Int→List Tree),take es.length (es.map f)=es.map f:=fun f=>take_of_length_le (by simp);simp only [UI,vv,reduceCtorEq,reduceAdd,reduceEqDiff,hx,AP.enc,Rd.Ae,AY (show i<4611686018427387904 by omega),(show (i:Int)<l.length by omega),NH,t1];by_cases k0:x.node=node
  ·have e1:Bo node es x=Dc (Dc es x.frm x.size) x.to (w64 (0-x.size)):=by simp only [Bo,if_pos k0]
   have e2:BK x.frm (w64 ((As x.frm es).getD 0+x.size)) es=Dc es x.frm x.size:=rfl;have e3:BK x.to (w64 ((As x.to (Dc es x.frm x.size)).getD 0+w64 (0-x.size))) (Dc es x.frm x.size)=Dc (Dc es x.frm x.size) x.to (w64 (0-x.size)):=rfl;simp only [e1,e2,e3,k0,beq_self_eq_true,KY,R4];by_cases k1:x.frm∈es.map (·.1)
   ·by_cases k2:x.to∈(Dc es x.frm x.size).map (·.1)
    ·simp only [k1,k2,vv,reduceCtorEq,reduceAdd,reduceEqDiff,append_nil,add_zero]
    ·simp only [k1,k2,vv,reduceCtorEq,reduceAdd,reduceEqDiff,append_nil,add_zero,b1,le_refl];rfl
   ·by_cases k2:x.to∈(Dc es x.frm x.size).map (·.1)
    ·simp only [k1,k2,vv,reduceCtorEq,reduceAdd,reduceEqDiff,append_nil,add_zero,b1,le_refl];rfl
    ·simp only [k1,k2,vv,reduceCtorEq,reduceAdd,reduceEqDiff,append_nil,add_zero,b1,b2,le_refl];have t2:take (es.length+1) (es.map (fun p=>encI p.1)++[[tI x.frm]])=es.map (fun p=>encI p.1)++[[tI x.frm]]:=take_of_length_le (by simp);rw [Cj (by simp),t2];rfl
  ·have e1:Bo node es x=es:=by simp only [Bo,if_neg k0]
   simp only [e1,beq_eq_false_iff_ne.2 k0,vv,reduceCtorEq,reduceAdd,reduceEqDiff]
 ·have hi:=AN hx;simp only [Rd.next.injEq] at h;subst h;have:=Jf node es x;omega
 ·have b1:es.length≤1073741824:=by omega
  have hk:∀es:List (Int×Int),es.map (fun p=>encI p.1)=(es.map (·.1)).map encI:=fun es=>by rw [map_map];rfl
  have t1:take es.length (es.map fun p=>encI p.1)=(es.map (·.1)).map encI:=by rw [hk];exact take_of_length_le (by simp)
  have hsl:(Bj (es.map (·.1))).length=es.length:=by rw [(FK _).length_eq,length_map]
  have hrs:A0 (es.map fun p=>encI p.1) 0 ((Bj (es.map (·.1))).map encI)=(Bj (es.map (·.1))).map encI:=FM (by simp [hsl]);simp only [UI,vv,reduceCtorEq,reduceAdd,reduceEqDiff,lt_irrefl,t1,le_refl,b1,OX,Rq,hrs];generalize hks:Bj (es.map (·.1))=ks at hsl;refine Ev.mono (fun n h again=>h) ?_;refine An (fun (r:List Lvl)=>[Tree.sl 2 (r.map Lvl.enc)]) ks (RH es ks) (IA es) (fun s=>s.2) (fun i s=>s.2.length≤i∧i≤ks.length) (0,[]) (by simp only [RH,hsl];rfl) (by simp) ?_
   (fun i s x hx hI=>Ev.of fun n again => ?_) (fun i s x s' hx hI h => ?_) (fun s hI=>Ev.of fun n again => ?_)
  ·rw [M7];rfl
  ·have hi:=AN hx;have t3:take s.2.length (s.2.map Lvl.enc)=s.2.map Lvl.enc:=take_of_length_le (by simp);have b3:s.2.length+1≤1073741824:=by omega
   have b4:(i:Int)<(ks.length:Int):=by omega
   have e0:(As x es).getD 0=DG es x:=rfl;simp only [RH,← hsl,vv,reduceCtorEq,reduceAdd,reduceEqDiff,hx,encI,b3,b4,le_refl,t3,e0,AY (show i<4611686018427387904 by omega),IA,Rd.Ae];by_cases h:DG es x=0
   ·simp only [h,beq_self_eq_true,vv,reduceCtorEq,reduceAdd,reduceEqDiff]
   ·simp only [beq_eq_false_iff_ne.2 h,if_neg h,vv,reduceCtorEq,reduceAdd,reduceEqDiff,length_append,map_append,map_cons,map_nil,Lvl.enc]
  ·have hi:=AN hx;unfold IA at h;simp only [Rd.next.injEq] at h;subst h;split
   ·omega
   ·simp only [length_append,length_cons,length_nil];omega
  ·have t3:take s.2.length (s.2.map Lvl.enc)=s.2.map Lvl.enc:=take_of_length_le (by simp);simp only [RH,← hsl,vv,reduceCtorEq,reduceAdd,reduceEqDiff,lt_irrefl,t3]
end Ab
namespace Ab
open Go
theorem MF {n fr t:Int}:∀{l:List Span},l.Pairwise (fun a b=>a.frm≤b.frm)→∀{g:Span},g∈l→g.frm≤t→fr≤t→t+n≤g.to→∃b,C3 n fr l=some b∧b≤t
 |[],_,g,hg,_,_,_=>by cases hg
 |x::l,hp,g,hg,h1,h2,h3=>by
  rw [pairwise_cons] at hp;unfold C3;have hx:x.frm≤g.frm:=by
   rcases mem_cons.1 hg with rfl|hg
   ·exact Int.le_refl _
   ·exact hp.1 g hg
  have hb:(if fr>x.frm then fr else x.frm)≤t:=by split<;>omega
  by_cases hc:(if fr>x.frm then fr else x.frm)+n≤x.to
  ·rw [if_pos hc];exact ⟨_,rfl,hb⟩
  ·rw [if_neg hc];rcases mem_cons.1 hg with rfl|hg
   ·exact (hc (by omega)).elim
   ·exact MF hp.2 hg h1 h2 h3
theorem Tq {stop n t:Int} (hn:1≤n):∀(l:List Span) (at_:Int),at_≤t→t+n≤stop→(∀x∈l,x.to≤t∨t+n≤x.frm)→∃g∈Bg stop l at_,g.frm≤t∧t+n≤g.to
 |[],at_,h1,h2,_=>by unfold Bg;rw [if_pos (by omega)];exact ⟨_,mem_singleton.2 rfl,h1,h2⟩
 |x::l,at_,h1,h2,h3=>by
  unfold Bg;rcases h3 x (mem_cons_self ..) with hx|hx
  ·obtain ⟨g,g1,g2⟩:=Tq hn l (if at_<x.to then x.to else at_) (by split<;>omega) h2 fun y hy=>h3 y (mem_cons_of_mem _ hy);exact ⟨g,mem_append_right _ g1,g2⟩
  ·rw [if_pos (by omega)];exact ⟨⟨at_,x.frm⟩,mem_append_left _ (mem_singleton.2 rfl),h1,hx⟩
theorem SH {stop:Int} {l:List Span} {lo at_:Int} (h:Row stop l lo) (hle:lo≤at_):(Bg stop l at_).Pairwise fun a b=>a.frm≤b.frm:=by refine (List.Pairwise.and_mem.1 (JZ l lo at_ h hle)).imp fun {a b} hab => ?_;have:=EO l lo at_ h hle a hab.1;omega
theorem Tk {stop n fr b:Int} {l:List Span} {lo at_:Int} (h:Row stop l lo) (hle:lo≤at_) (hb:C3 n fr (Bg stop l at_)=some b) (hn:1≤n):at_≤b∧fr≤b∧b+n≤stop∧∀x∈l,x.to≤b∨b+n≤x.frm:=by obtain ⟨h1,g,g1,g2,g3⟩:=Gd hb;have hm:=EO l lo at_ h hle g g1;refine ⟨by omega,h1,by omega,fun x hx => ?_⟩;have:=Kt l lo at_ h hle g g1 x hx;omega
theorem KH {stop stop':Int} (hs:stop≤stop'):∀(l:List Span) (lo:Int),Row stop l lo→Row stop' l lo
 |[],lo,h=>Int.le_trans h hs
 |x::l,lo,⟨h1,h2,h3⟩=>⟨h1,h2,KH hs l x.to h3⟩
theorem Tl {stop stop' n fr fr' b:Int} {l:List Span} {lo at_:Int} (h:Row stop l lo) (hs:stop≤stop') (hle:lo≤at_) (hn:1≤n) (hf:fr'≤fr) (hb:C3 n fr (Bg stop l at_)=some b):∃b',C3 n fr' (Bg stop' l at_)=some b'∧b'≤b:=by obtain ⟨h1,h2,h3,h4⟩:=Tk h hle hb hn;obtain ⟨g,g1,g2,g3⟩:=Tq (stop:=stop') hn l at_ h1 (by omega) h4;exact MF (SH (KH hs l lo h) hle) g1 g2 (by omega) g3
def CW (s:List Span×Int) (t:Int):List Span×Int:=(if 0≤s.2∧s.2<t then s.1++[⟨s.2,t⟩] else s.1,-1)
def Di (Q size:Int) (s:List Span×Int) (t st:Int):List Span×Int:=if Q-st<size then CW s t else if s.2<0 then (s.1,t) else s
def Bu (Q size:Int) (s:List Span×Int) (x:Lvl):List Span×Int:=if x.at_<1099511627776 then Di Q size s x.at_ x.val else s
def Ar (Q size:Int) (ls:List Lvl):List Span:=(CW (ls.foldl (Bu Q size) (Di Q size ([],-1) 0 0)) 1099511627776).1
def Asc (l:List Span) (t:Int):Prop:=l.Pairwise (fun a b=>a.to≤b.frm)∧∀a∈l,0≤a.frm∧a.frm<a.to∧a.to≤t
theorem RZ {s:List Span×Int} {t u:Int} (h:Asc s.1 t) (hs:s.2 = -1∨(0≤s.2∧s.2≤t∧∀a∈s.1,a.to≤s.2)) (hu:t≤u):Asc (CW s u).1 u:=by
 unfold CW;have h0:Asc s.1 u:=⟨h.1,fun a ha=>by have:=h.2 a ha;omega⟩
 split
 ·rename_i hc;refine ⟨?_,fun a ha => ?_⟩
  ·rw [pairwise_append];refine ⟨h.1,by simp,fun a ha b hb => ?_⟩;cases mem_singleton.1 hb;rcases hs with hs|hs
   ·omega
   ·exact hs.2.2 a ha
  ·rcases mem_append.1 ha with ha|ha
   ·exact h0.2 a ha
   ·cases mem_singleton.1 ha;exact ⟨hc.1,hc.2,Int.le_refl _⟩
 ·exact h0
def Uf (s:List Span×Int) (t:Int):Prop:=Asc s.1 t∧(s.2 = -1∨(0≤s.2∧s.2≤t∧∀a∈s.1,a.to≤s.2))
theorem Qz {Q size st:Int} {s:List Span×Int} {t u:Int} (h:Uf s t) (hu:t≤u) (h0:0≤u):Uf (Di Q size s u st) u:=by
 unfold Di;split
 ·exact ⟨RZ h.1 h.2 hu,.inl rfl⟩
 ·split
  ·exact ⟨⟨h.1.1,fun a ha=>by have:=h.1.2 a ha;omega⟩,.inr ⟨h0,Int.le_refl _,fun a ha=>by have:=h.1.2 a ha;omega⟩⟩
  ·rename_i h1 h2;refine ⟨⟨h.1.1,fun a ha=>by have:=h.1.2 a ha;omega⟩,.inr ?_⟩;rcases h.2 with h3|h3
   ·omega
   ·exact ⟨h3.1,by omega,h3.2.2⟩
theorem Il {Q size:Int}:∀(ls:List Lvl) (s:List Span×Int) (t:Int),Uf s t→0≤t→t≤1099511627776→ls.Pairwise (fun x y=>x.at_<y.at_)→(∀x∈ls,t≤x.at_)→∃u,u≤1099511627776∧Uf (ls.foldl (Bu Q size) s) u
 |[],s,t,h,_,h2,_,_=>⟨t,h2,h⟩
 |x::ls,s,t,h,h0,h2,hp,hl=>by
  rw [pairwise_cons] at hp;have hx:=hl x (mem_cons_self ..);rw [foldl_cons];unfold Bu;split
  ·exact Il ls _ x.at_ (Qz h hx (by omega)) (by omega) (by omega) hp.2 fun y hy=>Int.le_of_lt (hp.1 y hy)
  ·exact Il ls _ t h h0 h2 hp.2 fun y hy=>hl y (mem_cons_of_mem _ hy)
theorem Ru {Q size:Int} {ls:List Lvl} (hp:ls.Pairwise fun x y=>x.at_<y.at_) (h0:∀x∈ls,0≤x.at_):Asc (Ar Q size ls) 1099511627776:=by
 have hst:Uf (([],-1):List Span×Int) 0:=⟨⟨by simp,fun a ha=>by cases ha⟩,.inl rfl⟩
 obtain ⟨u,h1,h2⟩:=Il (Q:=Q) (size:=size) ls _ 0 (Qz (Q:=Q) (size:=size) (st:=0) hst (Int.le_refl _) (Int.le_refl _)) (Int.le_refl _) (by omega) hp h0;exact RZ h2.1 h2.2 h1
theorem asc_ne {l:List Span} {t:Int} (h:Asc l t):l.Pairwise fun a b=>a.frm≠b.frm:=by refine (List.Pairwise.and_mem.1 h.1).imp fun {a b} hab => ?_;have:=h.2 a hab.1;omega
end Ab
namespace Ab
open Go
def BG (q:List Int) (cs:List AG) (r:Rqt):Int:=
 if AQ q cs≠0 then 1 else if r.src<0∨(q.length:Int)≤r.src∨r.dst<0∨(q.length:Int)≤r.dst then 2 else if r.src=r.dst then 10
 else if r.size<1∨65536<r.size∨r.ready<0∨r.dead<r.ready∨1099511627776<r.dead then 2 else if r.prio<0∨2<r.prio then 8 else 0
theorem CQ {q:List Int} {cs:List AG} {r:Rqt} (h:BG q cs r=0):AQ q cs=0∧0≤r.src∧r.src<q.length∧0≤r.dst∧r.dst<q.length∧r.src≠r.dst∧1≤r.size∧r.size≤65536∧0≤r.ready∧r.ready≤r.dead∧r.dead≤1099511627776∧0≤r.prio∧r.prio≤2:=by
 unfold BG at h;split at h
 ·cases h
 ·split at h
  ·cases h
  ·split at h
   ·cases h
   ·split at h
    ·cases h
    ·split at h
     ·cases h
     ·omega
theorem Et {q:List Int} {cs cs':List AG} {r:Rqt} (h:AQ q cs=0) (h':AQ q cs'=0):BG q cs r=BG q cs' r:=by unfold BG;rw [h,h']
def Be (q:List Int) (cs:List AG) (bs:List AJ) (hs:List AP):Int:=
 if AQ q cs≠0 then AQ q cs else if Aw q cs bs≠0 then Aw q cs bs else Bi q cs hs
def De (q:List Int) (cs:List AG) (bs:List AJ) (hs:List AP):Int:=
 if AQ q cs≠0 then AQ q cs else if Aw q cs bs≠0 then Aw q cs bs else DL q cs hs
theorem Mk {q:List Int} {cs:List AG} {bs:List AJ} {hs:List AP} (h:De q cs bs hs=0):AQ q cs=0∧Aw q cs bs=0∧DL q cs hs=0:=by unfold De at h;grind
theorem Bp {q:List Int} {cs:List AG} {bs:List AJ} {hs:List AP} (h:Be q cs bs hs=0):AQ q cs=0∧Aw q cs bs=0∧Bi q cs hs=0:=by unfold Be at h;grind
theorem JQ {q:List Int} {cs:List AG} {bs:List AJ} {hs:List AP} (h1:AQ q cs=0) (h2:Aw q cs bs=0) (h3:Bi q cs hs=0):Be q cs bs hs=0:=by unfold Be;rw [if_neg (by omega),if_neg (by omega),h3]
theorem Nz {q:List Int} {cs:List AG} {bs:List AJ} {hs:List AP} (h:De q cs bs hs=0):Be q cs bs hs=0:=by obtain ⟨h1,h2,h3⟩:=Mk h;exact JQ h1 h2 (N2 h3)
theorem Dj {q:List Int} {cs:List AG} (h:AQ q cs=0):∀c∈cs,AX c=0∧c.frm<q.length∧c.to<q.length:=fun c hc=>by
 have hp:=h;unfold AQ at h;split at h
 ·cases h
 ·split at h
  ·unfold Mx at h;obtain ⟨j,hj,rfl⟩:=mem_iff_getElem.1 hc;have:=EL (step:=Bv q.length cs) (fun i x r hd=>by
    unfold Bv at hd;split at hd
    ·rename_i hz;cases hd;exact hz
    ·split at hd
     ·cases hd;decide
     ·split at hd
      ·cases hd;decide
      ·cases hd) cs 0 h j cs[j] (getElem?_eq_getElem hj)
   unfold Bv at this;split at this
   ·cases this
   ·split at this
    ·cases this
    ·rename_i h1 h2;exact ⟨by omega,by omega,by omega⟩
  ·cases h
def En (bs:List AJ):Nat→List AG→List (List Span)
 |_,[]=>[]
 |k,c::l=>Bg c.stop (busy bs k) c.start::En bs (k+1) l
def Dh (hs:List AP) (size:Int):Nat→List Int→List (List Span)
 |_,[]=>[]
 |n,Q::l=>Ar Q size (levels hs n)::Dh hs size (n+1) l
def gOf (q:List Int) (cs:List AG) (bs:List AJ) (hs:List AP) (r:Rqt):Gr:=⟨cs,En bs 0 cs,Dh hs r.size 0 q,cs.map fun c=>Cw c r.size,r⟩
theorem Iy (bs:List AJ):∀(l:List AG) (k j:Nat),(En bs k l).getD j []=match l[j]? with
  |some c=>Bg c.stop (busy bs (k+j:Nat)) c.start
  |none=>[]
 |[],k,j=>by simp [En]
 |c::l,k,j=>by
  cases j with
  |zero=>simp [En]
  |succ j=>
   have:=Iy bs l (k+1) j;simp only [En,List.getD_cons_succ,getElem?_cons_succ];rw [this,show k+1+j=k+(j+1) by omega]
theorem FN (hs:List AP) (size:Int):∀(l:List Int) (k j:Nat),(Dh hs size k l)[j]? = (l[j]?).map fun Q=>Ar Q size (levels hs (k+j:Nat))
 |[],k,j=>by simp [Dh]
 |c::l,k,j=>by
  cases j with
  |zero=>simp [Dh]
  |succ j=>
   have:=FN hs size l (k+1) j;simp only [Dh,getElem?_cons_succ];rw [this,show k+1+j=k+(j+1) by omega]
theorem ET (hs:List AP) (size:Int):∀(l:List Int) (k:Nat),(Dh hs size k l).length=l.length
 |[],k=>rfl
 |c::l,k=>by simp [Dh,ET hs size l (k+1)]
theorem L0 {q:List Int} {hs:List AP} {size:Int} (hh:GF q hs=0) (hl:hs.length≤10000):∀l∈Dh hs size 0 q,Asc l 1099511627776:=fun l hm=>by
 obtain ⟨j,hj,rfl⟩:=mem_iff_getElem.1 hm;have h1:=FN hs size q 0 j;rw [getElem?_eq_getElem hj] at h1;cases hQ:q[j]? with
 |none=>rw [hQ] at h1;cases h1
 |some Q=>
  rw [hQ] at h1;rw [Option.some.inj h1];have hs':=GA (Ml hh) hl ((0+j:Nat):Int);exact Ru hs'.2 fun x hx=>(hs'.1 x hx).2.1
theorem QG {q:List Int} {cs:List AG} {bs:List AJ} {hs:List AP} {r:Rqt} (ht:Be q cs bs hs=0) (hr:BG q cs r=0):GOk (gOf q cs bs hs r) where
 src:=by have:=CQ hr;refine ⟨this.2.1,?_,this.2.2.2.2.2.1⟩;show r.src<((Dh hs r.size 0 q).length:Nat);rw [ET];exact this.2.2.1
 dur:=fun k hk=>by
  have hr':=CQ hr;have hk':k<cs.length:=hk;have:(gOf q cs bs hs r).dur.getD k 0=Cw cs[k] r.size:=by show (cs.map fun c=>Cw c r.size).getD k 0=_;simp [List.getD,hk']
  rw [this];exact Ol (Dj hr'.1 _ (getElem_mem hk')).1 (by omega)
 con:=fun c hc=>by have hr':=CQ hr;obtain ⟨h1,h2,h3⟩:=Dj hr'.1 c hc;have:=BO h1;refine ⟨by omega,?_,by omega⟩;show c.to<((Dh hs r.size 0 q).length:Nat);rw [ET];exact h3
 room:=fun l hl=>by obtain ⟨_,_,h3⟩:=Bp ht;obtain ⟨_,h4,h5⟩:=D1 h3;exact asc_ne (L0 h5 (by omega) l hl)
structure CLe (cs cs':List AG):Prop where
 len:cs'.length=cs.length
 con:∀(k:Nat) (c:AG),cs[k]? = some c→∃c':AG,cs'[k]? = some c'∧c'.frm=c.frm∧c'.to=c.to∧c'.start=c.start∧c'.rate=c.rate∧c'.rng=c.rng∧c'.loss=c.loss∧c.stop≤c'.stop
theorem CLe.dur {c c':AG} (h1:c'.rate=c.rate) (h2:c'.rng=c.rng) (h3:c'.loss=c.loss) (n:Int):Cw c' n=Cw c n:=by unfold Cw C5 CH;rw [h1,h2,h3]
theorem Jh {q:List Int} {cs cs':List AG} {l:List AJ} (hl:CLe cs cs') (hp:AQ q cs'=0) (h:Aw q cs l=0):Aw q cs' l=0:=by
 obtain ⟨_,h2,h3⟩:=CY h;refine NU hp h2 ⟨fun b hb => ?_,h3.2⟩;have h1:=h3.1 b hb;have hv:=Jw h1;unfold B4 at h1 ⊢;split at h1
 ·cases h1
 ·rename_i hc;rw [if_neg (by rw [hl.len];exact hc)];split at h1
  ·rename_i c he;obtain ⟨c',e1,e2,e3,e4,e5,e6,e7,e8⟩:=hl.con _ c he;rw [e1];simp only [decide_eq_true_eq] at h1 ⊢;omega
  ·cases h1
theorem Mg {cs cs':List AG} {b:AJ} (hl:CLe cs cs') (h1:B4 cs b=true):B4 cs' b=true:=by
 unfold B4 at h1 ⊢;split at h1
 ·cases h1
 ·rename_i hc;rw [if_neg (by rw [hl.len];exact hc)];split at h1
  ·rename_i c he;obtain ⟨c',e1,e2,e3,e4,e5,e6,e7,e8⟩:=hl.con _ c he;rw [e1];simp only [decide_eq_true_eq] at h1 ⊢;omega
  ·cases h1
theorem gOf_le {q:List Int} {cs cs':List AG} {bs:List AJ} {hs:List AP} {r:Rqt} (hl:CLe cs cs') (ht:Be q cs bs hs=0) (hr:BG q cs r=0):GLe (gOf q cs bs hs r) (gOf q cs' bs hs r) where
 rq:=rfl
 Ar:=rfl
 cs:=fun k c hc=>by obtain ⟨c',e1,e2,e3,e4,e5,e6,e7,e8⟩:=hl.con k c hc;exact ⟨c',e1,e2,e3,e6⟩
 dur:=fun k hk=>by have hk':k<cs.length:=hk;obtain ⟨c',e1,e2,e3,e4,e5,e6,e7,e8⟩:=hl.con k cs[k] (getElem?_eq_getElem hk');show (cs'.map fun c=>Cw c r.size).getD k 0=(cs.map fun c=>Cw c r.size).getD k 0;simp only [List.getD,getElem?_map,e1,getElem?_eq_getElem hk',map_some,Option.getD_some];exact CLe.dur e5 e6 e7 _
 hop:=fun k fr fr' b hk hb hf=>by
  have hk':k<cs.length:=hk;obtain ⟨hp,hbo,_⟩:=Bp ht;have hr':=CQ hr;obtain ⟨c',e1,e2,e3,e4,e5,e6,e7,e8⟩:=hl.con k cs[k] (getElem?_eq_getElem hk');have hcc:=(Dj hp _ (getElem_mem hk')).1;have h1:(gOf q cs bs hs r).gaps.getD k []=Bg cs[k].stop (busy bs (k:Nat)) cs[k].start:=by have:=Iy bs cs 0 k;rw [getElem?_eq_getElem hk',zero_add] at this;exact this
  have h2:(gOf q cs' bs hs r).gaps.getD k []=Bg c'.stop (busy bs (k:Nat)) cs[k].start:=by have:=Iy bs cs' 0 k;rw [e1,zero_add] at this;simp only [e4] at this;exact this
  have hd:(gOf q cs bs hs r).dur.getD k 0=Cw cs[k] r.size:=by show (cs.map fun c=>Cw c r.size).getD k 0=_;simp [List.getD,hk']
  rw [h1,hd] at hb;rw [h2,hd];have hrow:=IV (CY hbo).2.2 (k:=((k:Nat):Int)) (c:=cs[k]) (by rw [toNat_natCast];exact getElem?_eq_getElem hk') hcc;exact Tl hrow e8 (Int.le_refl _) (Ol hcc (by omega)) hf hb
def Fk (c:AG) (beg size:Int):Bool:=decide (By c size=0∧c.start≤beg∧beg≤c.stop-Cw c size)
def SF (k:Int) (c:AG) (beg size:Int):Hop:=⟨k,beg,beg+Cw c size,beg+Cw c size+c.rng⟩
def Bx (cs:List AG) (r:Rqt) (node time:Int) (h:Hop):Int:=
 if h.con<0∨(cs.length:Int)≤h.con then 2 else match cs[h.con.toNat]? with
  |none=>2
  |some c=>if c.frm≠node∨node=r.dst then 10 else if h.beg<time then 9 else if Fk c h.beg r.size=false then 16 else if h≠SF h.con c h.beg r.size then 1 else 0
def G8 (cs:List AG) (k:Int):Int:=match cs[k.toNat]? with
 |some c=>c.to
 |none=>0
def OE (cs:List AG) (k:Int):Int:=match cs[k.toNat]? with
 |some c=>c.rng
 |none=>0
def Ih (cs:List AG) (r:Rqt):Int→Int→List Hop→Int
 |_,_,[]=>0
 |node,time,h::l=>if Bx cs r node time h≠0 then Bx cs r node time h else Ih cs r (G8 cs h.con) h.arr l
def BY (q:List Int) (cs:List AG) (r:Rqt) (l:List Hop):Int:=
 if BG q cs r≠0 then 1 else if l.length=0 then 20 else if l.length>1000 then 4 else if Ih cs r r.src r.ready l≠0 then Ih cs r r.src r.ready l
 else match l.getLast? with
  |none=>0
  |some h=>if G8 cs h.con≠r.dst then 18 else if h.arr>r.dead then 16 else 0
def Kk (cs:List AG) (r:Rqt) (h:Hop):Int:=if r.cust then h.stop+2*OE cs h.con else h.stop
def DI (cs:List AG) (r:Rqt) (ticket:Int):Int→Int→List Hop→List AP
 |_,_,[]=>[]
 |node,fr,h::l=>⟨node,fr,Kk cs r h,r.size,ticket⟩::DI cs r ticket (G8 cs h.con) h.beg l
def LH (ticket:Int) (h:Hop):AJ:=⟨h.con,h.beg,h.stop,ticket⟩
def E2 (q:List Int) (cs:List AG):List AJ→List AJ→Option (List AJ)
 |cur,[]=>some cur
 |cur,b::l=>if FH q cs cur b≠0 then none else E2 q cs (JD q cs cur b) l
def QA (l:List AP) (h:AP):List AP:=QB (fun x => !CZ x h) h l
def Cz (q:List Int) (cs:List AG) (l:List AP) (h:AP):Int:=
 if Bi q cs l≠0 then 1 else if EE q h=false then 2 else if l.length=512 then 4 else if G1 (levels (QA l h) h.node)>q.getD h.node.toNat 0 then 15 else 0
def Fp (q:List Int) (cs:List AG):List AP→List AP→Bool
 |cur,[]=>true
 |cur,h::l=>if Cz q cs cur h≠0 then false else Fp q cs (QA cur h) l
def Fa (sb:List AJ→List AJ) (sh:List AP→List AP) (q:List Int) (cs:List AG) (bs:List AJ) (hs:List AP) (r:Rqt) (l:List Hop):Int:=
 if Be q cs bs hs≠0 then 1 else if BY q cs r l≠0 then BY q cs r l
 else if bs.length+l.length>512∨hs.length+(DI cs r 0 r.src r.ready l).length>512 then 4
 else if (E2 q cs bs (sb (l.map (LH 0)))).isNone then 14 else if Fp q cs hs (sh (DI cs r 0 r.src r.ready l))=false then 15 else 0
theorem Eg {cs cs':List AG} (hl:CLe cs cs') (k:Int):G8 cs' k=G8 cs k∧OE cs' k=OE cs k:=by
 unfold G8 OE;cases h:cs[k.toNat]? with
 |some c=>
  obtain ⟨c',e1,e2,e3,e4,e5,e6,e7,e8⟩:=hl.con _ c h;rw [e1];exact ⟨e3,e6⟩
 |none=>
  have:cs'[k.toNat]? = none:=by rw [List.getElem?_eq_none_iff,hl.len];exact List.getElem?_eq_none_iff.1 h
  rw [this];exact ⟨rfl,rfl⟩
theorem Om {c:AG} {n:Int}:By c n=0↔AX c=0∧1≤n∧n≤65536:=by unfold By;grind
theorem Jk {q:List Int} {cs cs':List AG} {r:Rqt} (hl:CLe cs cs') (hp:AQ q cs'=0) {node time:Int} {h:Hop} (hh:Bx cs r node time h=0):Bx cs' r node time h=0:=by
 unfold Bx at hh ⊢;split at hh
 ·cases hh
 ·rename_i hc;rw [if_neg (by rw [hl.len];exact hc)];cases he:cs[h.con.toNat]? with
  |none=>rw [he] at hh;cases hh
  |some c=>
   obtain ⟨c',e1,e2,e3,e4,e5,e6,e7,e8⟩:=hl.con _ c he;rw [he] at hh;rw [e1];simp only at hh ⊢;have hcc:=(Dj hp c' (mem_of_getElem? e1)).1;have hd:=CLe.dur e5 e6 e7 r.size;split at hh
   ·cases hh
   ·rename_i h1;rw [e2,if_neg h1];split at hh
    ·cases hh
    ·rename_i h2;rw [if_neg h2];split at hh
     ·cases hh
     ·rename_i h3;have h3':Fk c h.beg r.size=true:=by simpa using h3
      have:Fk c' h.beg r.size=true:=by unfold Fk at h3' ⊢;simp only [decide_eq_true_eq,Om] at h3' ⊢;rw [hd];exact ⟨⟨hcc,h3'.1.2⟩,by omega,by omega⟩
      rw [if_neg (by rw [this];simp)];split at hh
      ·cases hh
      ·rename_i h4;rw [if_neg (by unfold SF at h4 ⊢;rw [hd,e6];exact h4)]
theorem Jv {q:List Int} {cs cs':List AG} {r:Rqt} (hl:CLe cs cs') (hp:AQ q cs'=0):∀(l:List Hop) (node time:Int),Ih cs r node time l=0→Ih cs' r node time l=0
 |[],_,_,_=>rfl
 |h::l,node,time,hw=>by
  unfold Ih at hw ⊢;split at hw
  ·contradiction
  ·rename_i h1;rw [if_neg (by rw [Jk hl hp (by omega)];simp),(Eg hl _).1];exact Jv hl hp l _ _ hw
theorem Mq {q:List Int} {cs cs':List AG} {r:Rqt} {l:List Hop} (hl:CLe cs cs') (hp:AQ q cs'=0) (h:BY q cs r l=0):BY q cs' r l=0:=by
 unfold BY at h ⊢;split at h
 ·cases h
 ·rename_i h1;rw [← Et (CQ (by omega:BG q cs r=0)).1 hp,if_neg h1];split at h
  ·cases h
  ·rename_i h2;rw [if_neg h2];split at h
   ·cases h
   ·rename_i h3;rw [if_neg h3];split at h
    ·contradiction
    ·rename_i h4;rw [if_neg (by rw [Jv hl hp _ _ _ (by omega)];simp)];cases he:l.getLast? with
     |none=>rfl
     |some x=>
      rw [he] at h;simp only at h ⊢;rw [(Eg hl _).1];exact h
theorem IG {cs cs':List AG} {r:Rqt} (hl:CLe cs cs') (ticket:Int):∀(l:List Hop) (node fr:Int),DI cs' r ticket node fr l=DI cs r ticket node fr l
 |[],_,_=>rfl
 |h::l,node,fr=>by unfold DI Kk;rw [(Eg hl _).1,(Eg hl _).2,IG hl ticket l]
theorem PM {q:List Int} {cs cs':List AG} {cur:List AJ} {b:AJ} (hl:CLe cs cs') (hp:AQ q cs'=0) (h:FH q cs cur b=0):FH q cs' cur b=0∧JD q cs' cur b=JD q cs cur b:=by
 obtain ⟨h1,h2,h3,h4⟩:=add_ok h;have:FH q cs' cur b=0:=by unfold FH;rw [if_neg (by rw [Jh hl hp h1];simp),if_neg (by rw [Mg hl h2];simp),if_neg (by omega),if_neg (by rw [h4];simp)]
 refine ⟨this,?_⟩;unfold JD;rw [if_pos this,if_pos h]
theorem G7 {q:List Int} {cs cs':List AG} (hl:CLe cs cs') (hp:AQ q cs'=0):∀(l cur:List AJ),(E2 q cs cur l).isSome=true→(E2 q cs' cur l).isSome=true
 |[],_,_=>rfl
 |b::l,cur,h=>by
  unfold E2 at h ⊢;split at h
  ·cases h
  ·rename_i h1;obtain ⟨h2,h3⟩:=PM hl hp (by omega:FH q cs cur b=0);rw [if_neg (by omega),h3];exact G7 hl hp l _ h
theorem Gu {q:List Int} {cs cs':List AG} (hp:AQ q cs=0) (hp':AQ q cs'=0):∀(l cur:List AP),Fp q cs' cur l=Fp q cs cur l
 |[],_=>rfl
 |h::l,cur=>by
  unfold Fp;have:Cz q cs' cur h=Cz q cs cur h:=by unfold Cz;rw [Gt hp' hp]
  rw [this,Gu hp hp' l]
theorem G9 {q:List Int} {cs cs':List AG} {bs:List AJ} {hs:List AP} (hl:CLe cs cs') (hp:AQ q cs'=0) (h:Be q cs bs hs=0):Be q cs' bs hs=0:=by obtain ⟨h1,h2,h3⟩:=Bp h;exact JQ hp (Jh hl hp h2) (by rw [Gt hp h1];exact h3)
theorem NZ {sb:List AJ→List AJ} {sh:List AP→List AP} {q:List Int} {cs cs':List AG} {bs:List AJ} {hs:List AP} {r:Rqt} {l:List Hop} (hl:CLe cs cs') (hp:AQ q cs'=0) (h:Fa sb sh q cs bs hs r l=0):Fa sb sh q cs' bs hs r l=0:=by
 unfold Fa at h ⊢;split at h
 ·cases h
 ·rename_i h1;have ht:Be q cs bs hs=0:=by omega
  rw [if_neg (by rw [G9 hl hp ht];simp)];split at h
  ·contradiction
  ·rename_i h2;rw [if_neg (by rw [Mq hl hp (by omega)];simp),IG hl];split at h
   ·cases h
   ·rename_i h3;rw [if_neg h3];split at h
    ·cases h
    ·rename_i h4;have h5:=G7 hl hp (sb (l.map (LH 0))) bs (by cases hx:E2 q cs bs (sb (l.map (LH 0))) with
      |none=>rw [hx] at h4;simp at h4
      |some _=>rfl)
     rw [if_neg (by cases hx:E2 q cs' bs (sb (l.map (LH 0))) with
      |none=>rw [hx] at h5;cases h5
      |some _=>simp),Gu (Bp ht).1 hp]
     exact h
theorem Qe {q:List Int} {cs cs':List AG} {bs:List AJ} {hs:List AP} {r:Rqt} (hl:CLe cs cs') (hp:AQ q cs'=0) (ht:Be q cs bs hs=0) (hr:BG q cs r=0) {l l':List Lab} (h1:l.Perm (labels (gOf q cs bs hs r))) (h2:l'.Perm (labels (gOf q cs' bs hs r))) {a:Int} (h:DX (gOf q cs bs hs r) l=some a) :
  ∃a',DX (gOf q cs' bs hs r) l'=some a'∧a'≤a:=by
 have hr':BG q cs' r=0:=by rw [← Et (Bp ht).1 hp];exact hr
 exact arrM_le (QG ht hr) (QG (G9 hl hp ht) hr') (gOf_le hl ht hr) (fun x=>h1.mem_iff) (fun x=>h2.mem_iff) h
end Ab
namespace Ab
open Go
end Ab
namespace Ab
open Go
theorem KG {α:Type} {step:Nat→Unit→α→Rd Unit Int} (hd:∀i x r,step i () x = .done r→r≠0) (R:Int):∀(l:List α) (i:Nat),A9 step (fun _=>R) i l ()=if A9 step (fun _=>0) i l ()≠0 then A9 step (fun _=>0) i l () else R
 |[],i=>by simp [A9]
 |x::l,i=>by
  have e:∀R:Int,A9 step (fun _=>R) i (x::l) ()=(step i () x).fin fun s=>A9 step (fun _=>R) (i+1) l s:=fun R=>by rw [A9];cases step i () x<;>rfl
  rw [e,e];cases h:step i () x with
  |done r=>
   have:=hd i x r h;simp only [Rd.fin,ne_eq,this,not_false_eq_true,if_true]
  |next s=>exact KG hd R l (i+1)
theorem GD {q:List Int} {l:List AP} (i:Nat) (x:AP) (r:Int) (hd:Bl q l i () x = .done r):r≠0:=by
 unfold Bl at hd;split at hd
 ·cases hd;decide
 ·split at hd
  ·cases hd
  ·split at hd
   ·split at hd
    ·cases hd;decide
    ·cases hd
   ·cases hd
theorem planL {q:List Int} {cs:List AG} (h:AQ q cs=0):q.length≤16∧cs.length≤64∧1≤q.length:=by
 unfold AQ at h;split at h
 ·cases h
 ·omega
theorem s48 (q:List Int) (cs:List AG) (l:List AP):Af C 48 [.sl 1 (q.map encI),.sl 7 (cs.map AG.enc),.sl 5 (l.map AP.enc)] [tI (Bi q cs l)]:=by
 refine Af.of (fun n=>e48 n _ _ _) ?_;refine Ev.rw (T' := ?T') (s41 q cs) (fun n h => ?a) ?b
 case a=>
  simp only [h,vv,reduceCtorEq,reduceAdd,reduceEqDiff];rfl
 case b=>
  by_cases h1:AQ q cs=0∧l.length≤512
  ·have hql:=(planL h1.1).1;simp only [h1.1,bne_self_eq_false,(show ¬(512:Int)<l.length by omega),vv,reduceCtorEq,reduceAdd,reduceEqDiff,Bi,ne_eq,not_true_eq_false,(show ¬l.length>512 by omega)];refine An (fun r=>[tI r]) l (fun i _=>(([.t (tI i)],[]):List AV×Heap)) (Bl q l) (fun _=>A9 (EY l) (fun _=>0) 0 q ()) (fun _ _=>True) () rfl trivial (by rw [KG GD];rfl)
    (fun i s b hx hI => ?_) (fun _ _ _ _ _ _ _=>trivial) (fun s hI => ?_)
   ·have hi:=AN hx;by_cases hi0:i=0
    ·subst hi0;refine (s95 q cs b).mono fun n h again => ?_;simp only [vv,reduceCtorEq,reduceAdd,reduceEqDiff,hx,AP.enc,h,AY (show 0<4611686018427387904 by omega),(show ((0:Nat):Int)<l.length by omega),Bl];cases EE q b<;>simp [AI,Rd.Ap,Rd.Ae]
    ·have hp:l[i-1]? = some l[i-1]:=getElem?_eq_getElem (by omega);refine ((s95 q cs b).and (s96 l[i-1] b)).mono fun n ⟨h,h2⟩ again => ?_;simp only [AP.enc,cons_append,nil_append] at h2;have e1:(i:Int)-1=((i-1:Nat):Int):=by omega
     simp only [vv,reduceCtorEq,reduceAdd,reduceEqDiff,hx,hp,AP.enc,h,h2,AY (show i<4611686018427387904 by omega),Hd (show i<4611686018427387904 by omega) (by omega),(show ((i:Nat):Int)<l.length by omega),Bl,if_neg hi0,(show (0:Int)<(i:Int) by omega)];cases EE q b
     ·simp [AI,Rd.Ap]
     ·have h3:=MW l[i-1] b;simp only [AI];grind [Rd.Ap,Rd.Ae]
   ·simp only [vv,reduceCtorEq,reduceAdd,reduceEqDiff,lt_irrefl];refine Ev.mono (fun n h again=>h) ?_;refine An (fun r=>[tI r]) q (fun i _=>(([.t (tI i)],[]):List AV×Heap)) (EY l) (fun _=>0) (fun _ _=>True) () rfl trivial rfl
     (fun i s b hx hI => ?_) (fun _ _ _ _ _ _ _=>trivial) (fun s hI=>Ev.of fun n again => ?_)
    ·have hi:=AN hx;have hll:=FR l i;refine ((s98 l i (by omega)).and (s97 (levels l i) (by omega))).mono fun n ⟨h,h2⟩ again => ?_;simp only [vv,reduceCtorEq,reduceAdd,reduceEqDiff,hx,encI,h,h2,AY (show i<4611686018427387904 by omega),(show ((i:Nat):Int)<q.length by omega),EY];by_cases hb:b<G1 (levels l i)<;>simp [hb,AI,Rd.Ap,Rd.Ae]
    ·simp only [vv,reduceCtorEq,reduceAdd,reduceEqDiff,lt_irrefl]
  ·refine Ev.of fun n => ?_;simp only [Bi];by_cases h2:AQ q cs=0
   ·simp only [h2,bne_self_eq_false,(show (512:Int)<l.length by omega),vv,reduceCtorEq,reduceAdd,reduceEqDiff,ne_eq,not_true_eq_false,(show l.length>512 by omega)]
   ·simp [h2,AI]
theorem s111 (q:List Int) (cs:List AG) (l:List AP) (hl:l.length≤10000) (hs:HX l) (hn:∀h∈l,0≤h.node∧h.node<q.length):Af C 111 [.sl 1 (q.map encI),.sl 7 (cs.map AG.enc),.sl 5 (l.map AP.enc)] [.bool (MM q l)]:=by
 refine Af.of (fun n=>e111 n _ _ _) ?_;refine An (fun r=>[Tree.bool r]) l (fun i _=>(([.t (tI i)],[]):List AV×Heap)) (fun i _ x=>if decide (stored l x.node x.frm≤q.getD x.node.toNat 0)=true then .next () else .done false) (fun _=>true) (fun _ _=>True) () rfl trivial ?_
  (fun i s x hx hI => ?_) (fun _ _ _ _ _ _ _=>trivial) (fun s hI=>Ev.of fun n again => ?_)
 ·rw [Ho];unfold MM;cases l.all fun h=>decide (stored l h.node h.frm≤q.getD h.node.toNat 0)<;>rfl
 ·have hi:=AN hx;have hm:=hn x (mem_of_getElem? hx);have hq:q[x.node.toNat]? = some (q.getD x.node.toNat 0):=by rw [getElem?_eq_getElem (by omega)];simp [List.getD,getElem?_eq_getElem (show x.node.toNat<q.length by omega)]
  refine (s162 l x.node x.frm hl hs).mono fun n h again => ?_;simp only [vv,reduceCtorEq,reduceAdd,reduceEqDiff,hx,hq,AP.enc,encI,h,AY (show i<4611686018427387904 by omega),(show ((i:Nat):Int)<l.length by omega),hm.1];generalize q.getD x.node.toNat 0=Q;by_cases hb:stored l x.node x.frm≤Q
  ·simp only [hb,(show ¬Q<stored l x.node x.frm by omega),vv,reduceCtorEq,reduceAdd,reduceEqDiff,Rd.Ae]
  ·simp only [hb,(show Q<stored l x.node x.frm by omega),vv,reduceCtorEq,reduceAdd,reduceEqDiff,Rd.Ap]
 ·simp only [vv,reduceCtorEq,reduceAdd,reduceEqDiff,lt_irrefl]
theorem s58 (q:List Int) (cs:List AG) (l:List AP):Af C 58 [.sl 1 (q.map encI),.sl 7 (cs.map AG.enc),.sl 5 (l.map AP.enc)] [tI (DL q cs l)]:=by
 refine Af.of (fun n=>e58 n _ _ _) ?_;refine Ev.rw (T' := ?T') (s15 q cs) (fun n h => ?a) ?b
 case a=>
  simp only [h,vv,reduceCtorEq,reduceAdd,reduceEqDiff];rfl
 case b=>
  by_cases h1:AQ q cs=0∧l.length≤512
  ·simp only [h1.1,bne_self_eq_false,(show ¬(512:Int)<l.length by omega),vv,reduceCtorEq,reduceAdd,reduceEqDiff,DL,ne_eq,not_true_eq_false,(show ¬l.length>512 by omega)];refine An (fun r=>[tI r]) l (fun i _=>(([.t (tI i)],[]):List AV×Heap)) (Bl q l) (fun _=>if MM q l=true then 0 else 15) (fun i _=>∀j x,j<i→l[j]? = some x→EE q x=true) () rfl (fun j x h=>by omega) (by rw [KG GD];rfl)
    (fun i s b hx hI => ?_) (fun i s x s' hx hI h => ?_) (fun s hI => ?_)
   ·have hi:=AN hx;by_cases hi0:i=0
    ·subst hi0;refine (s109 q cs b).mono fun n h again => ?_;simp only [vv,reduceCtorEq,reduceAdd,reduceEqDiff,hx,AP.enc,h,AY (show 0<4611686018427387904 by omega),(show ((0:Nat):Int)<l.length by omega),Bl];cases EE q b<;>simp [AI,Rd.Ap,Rd.Ae]
    ·have hp:l[i-1]? = some l[i-1]:=getElem?_eq_getElem (by omega);refine ((s109 q cs b).and (s110 b l[i-1])).mono fun n ⟨h,h2⟩ again => ?_;simp only [AP.enc,cons_append,nil_append] at h2;simp only [vv,reduceCtorEq,reduceAdd,reduceEqDiff,hx,hp,AP.enc,h,h2,AY (show i<4611686018427387904 by omega),Hd (show i<4611686018427387904 by omega) (by omega),(show ((i:Nat):Int)<l.length by omega),Bl,if_neg hi0,(show (0:Int)<(i:Int) by omega)];have h3:=MW l[i-1] b;cases EE q b
     ·simp [AI,Rd.Ap]
     ·simp only [AI];grind [Rd.Ap,Rd.Ae]
   ·intro j y hj hy;rcases lt_or_ge j i with h2|h2
    ·exact hI j y h2 hy
    ·obtain rfl:j=i:=by omega
     rw [hx] at hy;cases hy;unfold Bl at h;split at h
     ·cases h
     ·rename_i hv;simpa using hv
   ·have hv:∀x∈l,EE q x=true:=fun x hx=>by obtain ⟨j,hj,rfl⟩:=mem_iff_getElem.1 hx;exact hI j _ hj (getElem?_eq_getElem hj)
    refine (s111 q cs l (by omega) (fun x hx=>by have:=IH (hv x hx);omega) (fun x hx=>by have:=IH (hv x hx);omega)).mono fun n h again => ?_;simp only [vv,reduceCtorEq,reduceAdd,reduceEqDiff,lt_irrefl,h];cases MM q l<;>simp [AI]
  ·refine Ev.of fun n => ?_;simp only [DL];by_cases h2:AQ q cs=0
   ·simp only [h2,bne_self_eq_false,(show (512:Int)<l.length by omega),vv,reduceCtorEq,reduceAdd,reduceEqDiff,ne_eq,not_true_eq_false,(show l.length>512 by omega)]
   ·simp [h2,AI]
end Ab
namespace Ab
open Go
def Ph (i:Nat) (s:List Span×Int):List AV×Heap:=([.t (tI i)],[.row false s.1.length 2 (s.1.map Span.enc),.box [.sref 0 s.1.length 0 s.1.length],.box [.t (tI s.2)],.box [.func (.func 145) [] [.ptr 2 0,.ptr 1 0]]])
theorem Hq (Q size:Int) (s:List Span×Int) (x:Lvl):(Bu Q size s x).1.length≤s.1.length+1:=by
 unfold Bu Di CW;split
 ·split
  ·simp only;split<;>simp
  ·split<;>simp
 ·simp
theorem s85 (q:List Int) (cs:List AG) (l:List AP) (h0:Bi q cs l=0) (node:Nat) (Q:Int) (hq:q[node]? = some Q) (size:Int) (z1:1≤size) (z2:size≤65536) :
  Af C 85 [.sl 1 (q.map encI),.sl 7 (cs.map AG.enc),.sl 5 (l.map AP.enc),tI node,tI size] [.sl 2 ((Ar Q size (levels l node)).map Span.enc),tI 0]:=by
 obtain ⟨p1,p2,p3⟩:=D1 h0;have hs:=Ml p3;have hql:=(planL p1).1;have hQ:=Hv p1 Q (mem_of_getElem? hq);have hn:=AN hq;have hlev:=(GA hs (by omega) node).1;have hll:=FR l node;refine Af.of (fun n=>e85 n _ _ _ _ _) ?_;refine Ev.rw (T' := ?T') ((s48 q cs l).and (s98 l node (by omega))) (fun n h => ?a) ?b
 case a=>
  simp only [h.1,h.2,vv,reduceCtorEq,reduceAdd,reduceEqDiff,h0,bne_self_eq_false,hq,encI,(show ¬(node:Int)<0 by omega),(show ¬(q.length:Int)≤(node:Int) by omega),(show ¬size<1 by omega),(show ¬65536<size by omega)];rfl
 case b=>
  have hv:∀(i:Nat) (x:Lvl),(levels l node)[i]? = some x→0≤x.at_∧0≤x.val∧x.val≤33554432:=fun i x hx=>by have h1:=hlev x (mem_of_getElem? hx);have h2:=N5 hs node x.at_;refine ⟨h1.2.1,by omega,by omega⟩
  have w0:w64 (Q-0)=Q-0:=A6 (by omega) (by omega);have hstep:∀(i:Nat) (s:List Span×Int) (x:Lvl),(levels l node)[i]? = some x→s.1.length≤i+1∧(s.2 = -1∨0≤s.2)→(Bu Q size s x).1.length≤i+1+1∧((Bu Q size s x).2 = -1∨0≤(Bu Q size s x).2):=fun i s x hx hI=>by
   have h1:=Hq Q size s x;have h2:=hv i x hx;refine ⟨by omega,?_⟩;unfold Bu Di CW;split
   ·split
    ·exact .inl rfl
    ·split
     ·exact .inr h2.1
     ·exact hI.2
   ·exact hI.2
  rw [w0];have hrun:∀(s:List Span×Int),A9 (fun _ (s:List Span×Int) (x:Lvl)=>(.next (Bu Q size s x):Rd (List Span×Int) (List Span))) (fun s=>(CW s 1099511627776).1) 0 (levels l node) s=(CW ((levels l node).foldl (Bu Q size) s) 1099511627776).1:=fun s=>by rw [CJ]
  by_cases hc:Q-0<size
  all_goals
   simp only [hc,vv,reduceCtorEq,reduceAdd,reduceEqDiff];refine An (fun (r:List Span)=>[Tree.sl 2 (r.map Span.enc),tI 0]) (levels l node) Ph (fun _ s x =>.next (Bu Q size s x)) (fun s=>(CW s 1099511627776).1) (fun i s=>s.1.length≤i+1∧(s.2 = -1∨0≤s.2)) (Di Q size ([],-1) 0 0) ?_ ?_ (hrun _)
    (fun i s x hx hI=>Ev.of fun n again => ?_) (fun i s x s' hx hI h => ?_) (fun s hI=>Ev.of fun n again => ?_)
   ·simp only [Di,hc,if_true,if_false,CW];rfl
   ·simp only [Di,hc,if_true,if_false,CW];simp
   ·have hi:=AN hx;have hvx:=hv i x hx;have b1:s.1.length+1≤1073741824:=by omega
    have t3:take s.1.length (s.1.map Span.enc)=s.1.map Span.enc:=take_of_length_le (by simp);have w1:w64 (Q-x.val)=Q-x.val:=A6 (by omega) (by omega);simp only [Ph,vv,reduceCtorEq,reduceAdd,reduceEqDiff,hx,Lvl.enc,hq,encI,w1,b1,t3,le_refl,AY (show i<4611686018427387904 by omega),(show (i:Int)<(levels l node).length by omega),Rd.Ae,Bu,Di,CW];by_cases k1:x.at_<1099511627776
    ·by_cases k2:Q-x.val<size
     ·by_cases k3:0≤s.2
      ·by_cases k4:s.2<x.at_
       ·simp only [k1,k2,k3,k4,vv,reduceCtorEq,reduceAdd,reduceEqDiff,length_append,map_append,map_cons,map_nil,Span.enc]
       ·simp only [k1,k2,k3,k4,vv,reduceCtorEq,reduceAdd,reduceEqDiff]
      ·simp only [k1,k2,k3,vv,reduceCtorEq,reduceAdd,reduceEqDiff]
     ·by_cases k3:s.2<0
      ·simp only [k1,k2,k3,vv,reduceCtorEq,reduceAdd,reduceEqDiff]
      ·simp only [k1,k2,k3,vv,reduceCtorEq,reduceAdd,reduceEqDiff]
    ·simp only [k1,vv,reduceCtorEq,reduceAdd,reduceEqDiff]
   ·have hi:=AN hx;simp only [Rd.next.injEq] at h;subst h;exact hstep i s x hx hI
   ·have b1:s.1.length+1≤1073741824:=by omega
    have t3:take s.1.length (s.1.map Span.enc)=s.1.map Span.enc:=take_of_length_le (by simp);simp only [Ph,vv,reduceCtorEq,reduceAdd,reduceEqDiff,lt_irrefl,b1,t3,le_refl,CW];by_cases k3:0≤s.2
    ·by_cases k4:s.2<1099511627776
     ·have t4:take (s.1.length+1) (s.1.map Span.enc++[[tI s.2,tI 1099511627776]])=s.1.map Span.enc++[[tI s.2,tI 1099511627776]]:=take_of_length_le (by simp);simp only [k3,k4,vv,reduceCtorEq,reduceAdd,reduceEqDiff,map_append,map_cons,map_nil,Span.enc,t4]
     ·simp only [k3,k4,vv,reduceCtorEq,reduceAdd,reduceEqDiff]
    ·simp only [k3,vv,reduceCtorEq,reduceAdd,reduceEqDiff]
theorem Kj {a b c:AP} (h1:CZ b a=false) (h2:CZ c b=false):CZ c a=false:=by unfold CZ at *;grind
theorem Te {x y h:AP} (h1:CZ y x=false) (h2:CZ y h=true):CZ x h=true:=by unfold CZ at *;grind
theorem On {q:List Int} {l:List AP} (h:GF q l=0) (b:AP):Down (fun x=>CZ x b) l:=by
 have hnx:∀j x,l[j]? = some x→Bl q l (0+j) () x = .next ():=EL (step:=Bl q l) (fun i x r hd=>GD i x r hd) l 0 h;have hp:l.Pairwise fun a b=>CZ b a=false:=Dl (R:=fun a b=>CZ b a=false) (fun a b c h1 h2=>Kj h1 h2) l fun j x y hx hy=>by
  have:=hnx (j+1) y hy;unfold Bl at this;split at this
  ·cases this
  ·rw [if_neg (by omega)] at this;rw [show 0+(j+1)-1=j by omega,hx] at this;simp only at this;split at this
   ·cases this
   ·rename_i hc;simpa using hc
 intro i j x y hij hx hy hlt;rcases lt_or_ge i j with h1|h1
 ·exact Te (List.pairwise_iff_getElem.1 hp i j (AN hx) (AN hy) h1 |> fun e=>by have e1:=List.getElem?_eq_some_iff.1 hx;have e2:=List.getElem?_eq_some_iff.1 hy;obtain ⟨_,e1⟩:=e1;obtain ⟨_,e2⟩:=e2;rw [e1,e2] at e;exact e) hlt
 ·obtain rfl:i=j:=by omega
  rw [hx] at hy;cases hy;exact hlt
theorem insH_eq {q:List Int} {l:List AP} (h:GF q l=0) (b:AP):QA l b=l.take (l.countP fun x=>CZ x b)++b::l.drop (l.countP fun x=>CZ x b):=by unfold QA;rw [ND];obtain ⟨h1,h2⟩:=GK (On h b);rw [h1,h2];simp
def Ls (q:List Int) (cs:List AG) (l:List AP) (h:AP):List AP:=if Cz q cs l h=0 then QA l h else []
def Qk (q:List Int) (b:AP) (l:List AP):List AP×Int:=if G1 (levels l b.node)>q.getD b.node.toNat 0 then ([],15) else (l,0)
theorem s51 (q:List Int) (cs:List AG) (l:List AP) (b:AP) :
  Af C 51 [.sl 1 (q.map encI),.sl 7 (cs.map AG.enc),.sl 5 (l.map AP.enc),tI b.node,tI b.frm,tI b.to,tI b.size,tI b.ticket] [.sl 5 ((Ls q cs l b).map AP.enc),tI (Cz q cs l b)]:=by
 refine Af.of (fun n=>e51 n _ _ _ _ _ _ _ _) ?_;by_cases h0:Bi q cs l=0
 ·obtain ⟨p1,p2,p3⟩:=D1 h0;cases hv:EE q b with
  |false=>
   refine ((s48 q cs l).and (s95 q cs b)).mono fun n h => ?_;simp only [h.1,h.2,vv,reduceCtorEq,reduceAdd,reduceEqDiff,h0,hv,bne_self_eq_false];simp [Ls,Cz,h0,hv]
  |true=>
   by_cases hl:l.length=512
   ·refine ((s48 q cs l).and (s95 q cs b)).mono fun n h => ?_;simp only [h.1,h.2,vv,reduceCtorEq,reduceAdd,reduceEqDiff,h0,hv,bne_self_eq_false,hl];simp [Ls,Cz,h0,hv,hl,AI]
   ·have hvb:=IH hv;have hq:q[b.node.toNat]? = some (q.getD b.node.toNat 0):=by rw [getElem?_eq_getElem (by omega)];simp [List.getD,getElem?_eq_getElem (show b.node.toNat<q.length by omega)]
    have hr:([.sl 5 ((Ls q cs l b).map AP.enc),tI (Cz q cs l b)]:List Tree)=(fun r:List AP×Int=>[Tree.sl 5 (r.1.map AP.enc),tI r.2]) ((fun k:Nat=>Qk q b (l.take k++b::l.drop k)) (l.countP fun x=>CZ x b)):=by simp only [← insH_eq p3,Ls,Cz,h0,hv,hl,Qk];generalize q.getD b.node.toNat 0=Q;by_cases hm:G1 (levels (QA l b) b.node)>Q<;>simp only [hm]<;>simp
    rw [hr];refine Ev.rw (T' := ?T') ((s48 q cs l).and (s95 q cs b)) (fun n h => ?a) ?b
    case a=>
     simp only [h.1,h.2,vv,reduceCtorEq,reduceAdd,reduceEqDiff,h0,hv,bne_self_eq_false,(show ((l.length:Int)==512)=false by simp;omega)];rfl
    case b=>
     refine RX (fun r:List AP×Int=>[Tree.sl 5 (r.1.map AP.enc),tI r.2]) (fun x=>CZ x b) l (fun k:Nat=>Qk q b (l.take k++b::l.drop k)) (fun s=>(([.t (tI s.1),.t (tI s.2)],[]):List AV×Heap)) (On p3 b) (by simp)
      (fun s h1 h2 h3 => ?_)
     obtain ⟨a,c⟩:=s;simp only at h1 h2 h3;by_cases hac:a<c
     ·have hm:l[(a+c) / 2]? = some l[(a+c) / 2]:=getElem?_eq_getElem (by omega);refine (s96 l[(a+c) / 2] b).mono fun n h again => ?_;simp only [AP.enc,cons_append,nil_append] at h;simp only [vv,reduceCtorEq,reduceAdd,reduceEqDiff,halfU a c (by omega),hm,AP.enc,h,(show (a:Int)<(c:Int) by omega),Ec,if_pos hac,cmpH_lt,AY (show (a+c) / 2<4611686018427387904 by omega)];cases CZ l[(a+c) / 2] b<;>simp [AI,Rd.Ae]
     ·have ho:Ec (fun x=>CZ x b) l (fun k:Nat=>Qk q b (l.take k++b::l.drop k)) (a,c)= .done (Qk q b (l.take a++b::l.drop a)):=by simp [Ec,hac]
      rw [ho];have hcl:=TA (l.map AP.enc) (by simp;omega);have hlen:l.length+1≤1073741824:=by omega
      have ha:(a:Int)≤(l.length:Int):=by omega
      have hb:(l.take a++b::l.drop a).map AP.enc=take a (List.map AP.enc l)++[[tI b.node,tI b.frm,tI b.to,tI b.size,tI b.ticket]]++drop a (List.map AP.enc l):=by simp [AP.enc,map_take,map_drop]
      have e1:∀x:List Tree,take (l.length+1) (take a (List.map AP.enc l)++[x]++drop a (List.map AP.enc l))=take a (List.map AP.enc l)++[x]++drop a (List.map AP.enc l):=fun x=>take_of_length_le (by simp;omega);generalize hL:l.take a++b::l.drop a=L at hb ⊢;have hLl:L.length=l.length+1:=by rw [← hL];simp;omega
      have hlev:=s98 L b.node (by omega);have hll:=FR L b.node;have hmo:=s97 (levels L b.node) (by omega);rw [hb] at hlev;by_cases hal:a<l.length
      ·have hm:l[a]? = some l[a]:=getElem?_eq_getElem hal;refine ((s96 l[a] b).and (hcl.and (hlev.and hmo))).mono fun n h again => ?_;obtain ⟨h,k,k2,k3⟩:=h;simp only [AP.enc,cons_append,nil_append] at h;simp only [vv,reduceCtorEq,reduceAdd,reduceEqDiff,hm,AP.enc,h,k,(show ¬(a:Int)<(c:Int) by omega),(show (a:Int)<(l.length:Int) by omega),Rd.Ap,hlen,ha,e1,k2,k3,hq,encI,hvb.1,Qk,hb,(show (5:Nat)≠1 by decide),ne_eq,not_false_eq_true];generalize q.getD b.node.toNat 0=Q;by_cases hc:Q<G1 (levels L b.node)
       ·simp only [hc,vv,reduceCtorEq,reduceAdd,reduceEqDiff,map_nil]
       ·simp only [hc,vv,reduceCtorEq,reduceAdd,reduceEqDiff,hb]
      ·refine (hcl.and (hlev.and hmo)).mono fun n h again => ?_;obtain ⟨k,k2,k3⟩:=h;simp only [vv,reduceCtorEq,reduceAdd,reduceEqDiff,k,(show ¬(a:Int)<(c:Int) by omega),(show ¬(a:Int)<(l.length:Int) by omega),Rd.Ap,hlen,ha,e1,k2,k3,hq,encI,hvb.1,Qk,hb,(show (5:Nat)≠1 by decide),ne_eq,not_false_eq_true];generalize q.getD b.node.toNat 0=Q;by_cases hc:Q<G1 (levels L b.node)
       ·simp only [hc,vv,reduceCtorEq,reduceAdd,reduceEqDiff,map_nil]
       ·simp only [hc,vv,reduceCtorEq,reduceAdd,reduceEqDiff,hb]
 ·refine (s48 q cs l).mono fun n h => ?_;simp only [h,vv,reduceCtorEq,reduceAdd,reduceEqDiff];simp [Ls,Cz,h0,AI]
end Ab
namespace Ab
open Go
theorem s17 (q:List Int) (cs:List AG) (bs:List AJ) (hs:List AP):Af C 17 [.sl 1 (q.map encI),.sl 7 (cs.map AG.enc),.sl 4 (bs.map AJ.enc),.sl 5 (hs.map AP.enc)] [tI (Be q cs bs hs)]:=by refine Af.of (fun n=>e17 n _ _ _ _) ?_;refine ((s41 q cs).and ((s13 q cs bs).and (s48 q cs hs))).mono fun n ⟨h1,h2,h3⟩=> ?_;simp only [h1,h2,h3,vv,reduceCtorEq,reduceAdd,reduceEqDiff,Be,bne_iff_ne,EP]
theorem s24 (q:List Int) (cs:List AG) (bs:List AJ) (hs:List AP):Af C 24 [.sl 1 (q.map encI),.sl 7 (cs.map AG.enc),.sl 4 (bs.map AJ.enc),.sl 5 (hs.map AP.enc)] [tI (De q cs bs hs)]:=by refine Af.of (fun n=>e24 n _ _ _ _) ?_;refine ((s15 q cs).and ((s57 q cs bs).and (s58 q cs hs))).mono fun n ⟨h1,h2,h3⟩=> ?_;simp only [h1,h2,h3,vv,reduceCtorEq,reduceAdd,reduceEqDiff,De,bne_iff_ne,EP]
theorem s71 (q:List Int) (cs:List AG) (r:Rqt):Af C 71 [.sl 1 (q.map encI),.sl 7 (cs.map AG.enc),tI r.src,tI r.dst,tI r.size,tI r.ready,tI r.dead,tI r.prio,.bool r.cust] [tI (BG q cs r)]:=by refine Af.of (fun n=>e71 n _ _ _ _ _ _ _ _ _) ?_;refine (s41 q cs).mono fun n h1 => ?_;simp only [h1,vv,reduceCtorEq,reduceAdd,reduceEqDiff,BG,bne_iff_ne,beq_iff_eq,EP];congr 3;omega
theorem s25 (q:List Int) (cs:List AG) (r:Rqt):Af C 25 [.sl 1 (q.map encI),.sl 7 (cs.map AG.enc),tI r.src,tI r.dst,tI r.size,tI r.ready,tI r.dead,tI r.prio,.bool r.cust] [tI (BG q cs r)]:=by refine Af.of (fun n=>e25 n _ _ _ _ _ _ _ _ _) ?_;refine (s15 q cs).mono fun n h1 => ?_;simp only [h1,vv,reduceCtorEq,reduceAdd,reduceEqDiff,BG,bne_iff_ne,beq_iff_eq,EP];congr 3;omega
theorem s197 (c:AG) (hc:AX c=0) (beg n:Int) (h0:0≤n) (h1:n≤65536):Af C 197 (c.enc++[tI beg,tI n]) [.bool (decide (c.start≤beg∧beg≤c.stop-Cw c n))]:=by have o:=BO hc;have d:=EZ hc h0 h1;refine Af.of (fun m=>e197 m _ _ _ _ _ _ _ _ _) ?_;refine (s144 c hc n h0 h1).mono fun m k1 => ?_;simp only [AG.enc,cons_append,nil_append] at k1;simp only [k1,vv,reduceCtorEq,reduceAdd,reduceEqDiff,A6 (x:=c.stop-Cw c n) (by omega) (by omega)];by_cases hb:c.start≤beg<;>simp [hb,AI]
theorem s157 (c:AG) (beg n:Int):Af C 157 (c.enc++[tI beg,tI n]) [.bool (Fk c beg n)]:=by
 refine Af.of (fun m=>e157 m _ _ _ _ _ _ _ _ _) ?_;by_cases hd:By c n=0
 ·have hcn:AX c=0∧1≤n∧n≤65536:=by
   unfold By at hd;split at hd
   ·cases hd
   ·split at hd
    ·omega
    ·cases hd
  refine ((s143 c n).and (s197 c hcn.1 beg n (by omega) hcn.2.2)).mono fun m ⟨k1,k2⟩=> ?_;simp only [AG.enc,cons_append,nil_append] at k1 k2;simp only [k1,k2,vv,reduceCtorEq,reduceAdd,reduceEqDiff,hd,beq_self_eq_true,Fk]
 ·refine (s143 c n).mono fun m k1 => ?_;simp only [AG.enc,cons_append,nil_append] at k1;simp only [k1,vv,reduceCtorEq,reduceAdd,reduceEqDiff,beq_eq_false_iff_ne.2 hd,Fk,hd]
theorem s158 (q:List Int) (cs:List AG) (r:Rqt) (k:Int) (c:AG) (hk:0≤k) (hc:cs[k.toNat]? = some c) (beg:Int) (hf:Fk c beg r.size=true):Af C 158 [.sl 1 (q.map encI),.sl 7 (cs.map AG.enc),tI r.src,tI r.dst,tI r.size,tI r.ready,tI r.dead,tI r.prio,.bool r.cust,tI k,tI beg] (SF k c beg r.size).enc:=by
 unfold Fk at hf;simp only [decide_eq_true_eq] at hf;have hcn:AX c=0∧1≤r.size∧r.size≤65536:=by
  have hd:=hf.1;unfold By at hd;split at hd
  ·cases hd
  ·split at hd
   ·omega
   ·cases hd
 have o:=BO hcn.1;have d:=EZ hcn.1 (n:=r.size) (by omega) hcn.2.2;refine Af.of (fun m=>e158 m _ _ _ _ _ _ _ _ _ _ _) ?_;refine (s84 c r.size).mono fun m k1 => ?_;simp only [AG.enc,cons_append,nil_append,hf.1,if_true] at k1;simp only [k1,vv,reduceCtorEq,reduceAdd,reduceEqDiff,hc,AG.enc,hk,A6 (x:=beg+Cw c r.size) (by omega) (by omega),A6 (x:=beg+Cw c r.size+c.rng) (by omega) (by omega),SF,Hop.enc]
theorem s100 (q:List Int) (cs:List AG) (r:Rqt) (node time:Int) (h:Hop):Af C 100 [.sl 1 (q.map encI),.sl 7 (cs.map AG.enc),tI r.src,tI r.dst,tI r.size,tI r.ready,tI r.dead,tI r.prio,.bool r.cust,tI node,tI time,tI h.con,tI h.beg,tI h.stop,tI h.arr] [tI (Bx cs r node time h)]:=by
 refine Af.of (fun m=>e100 m _ _ _ _ _ _ _ _ _ _ _ _ _ _ _) ?_;by_cases h0:h.con<0∨(cs.length:Int)≤h.con
 ·refine Ev.of fun m => ?_;simp only [Bx,if_pos h0,AI,length_map];grind
 ·have hlt:h.con.toNat<cs.length:=by omega
  have hc:cs[h.con.toNat]? = some cs[h.con.toNat]:=getElem?_eq_getElem hlt;generalize cs[h.con.toNat]=c at hc;simp only [Bx,if_neg h0,hc];by_cases h1:c.frm≠node∨node=r.dst
  ·refine Ev.of fun m => ?_;simp only [if_pos h1,vv,reduceCtorEq,reduceAdd,reduceEqDiff,hc,AG.enc,(show ¬h.con<0 by omega),(show ¬(cs.length:Int)≤h.con by omega),(show 0≤h.con by omega),AI,bne_iff_ne,beq_iff_eq];grind
  ·have h1':c.frm=node∧¬node=r.dst:=by simp only [not_or,ne_eq,not_not] at h1;exact h1
   simp only [if_neg h1];by_cases h2:h.beg<time
   ·refine Ev.of fun m => ?_;simp only [h2,vv,reduceCtorEq,reduceAdd,reduceEqDiff,hc,AG.enc,(show ¬h.con<0 by omega),(show ¬(cs.length:Int)≤h.con by omega),(show 0≤h.con by omega),h1'.1,bne_self_eq_false,beq_eq_false_iff_ne.2 h1'.2]
   ·cases h3:Fk c h.beg r.size with
    |false=>
     refine (s157 c h.beg r.size).mono fun m k => ?_;simp only [AG.enc,cons_append,nil_append,h1'.1] at k;simp only [h2,k,h3,vv,reduceCtorEq,reduceAdd,reduceEqDiff,hc,AG.enc,(show ¬h.con<0 by omega),(show ¬(cs.length:Int)≤h.con by omega),(show 0≤h.con by omega),h1'.1,bne_self_eq_false,beq_eq_false_iff_ne.2 h1'.2]
    |true=>
     refine ((s157 c h.beg r.size).and (s158 q cs r h.con c (by omega) hc h.beg h3)).mono fun m ⟨k,k2⟩=> ?_;simp only [AG.enc,cons_append,nil_append,h1'.1] at k;simp only [h2,k,k2,h3,vv,reduceCtorEq,reduceAdd,reduceEqDiff,hc,AG.enc,Hop.enc,(show ¬h.con<0 by omega),(show ¬(cs.length:Int)≤h.con by omega),(show 0≤h.con by omega),h1'.1,bne_self_eq_false,beq_eq_false_iff_ne.2 h1'.2,EP];congr 3;generalize SF h.con c h.beg r.size=z;obtain ⟨z1,z2,z3,z4⟩:=z;obtain ⟨y1,y2,y3,y4⟩:=h;simp only [Hop.mk.injEq,ne_eq,not_eq_true',Bool.and_eq_false_iff,beq_eq_false_iff_ne];by_cases j1:y1=z1<;>by_cases j2:y2=z2<;>by_cases j3:y3=z3<;>by_cases j4:y4=z4<;>simp [j1,j2,j3,j4]
end Ab
namespace Ab
open Go
def GS (cs:List AG) (r:Rqt) (_:Nat) (s:Int×Int) (h:Hop):Rd (Int×Int) Int:=if Bx cs r s.1 s.2 h≠0 then .done (Bx cs r s.1 s.2 h) else .next (G8 cs h.con,h.arr)
theorem Qu (cs:List AG) (r:Rqt) (R:Int):∀(l:List Hop) (i:Nat) (node time:Int),A9 (GS cs r) (fun _=>R) i l (node,time)=if Ih cs r node time l≠0 then Ih cs r node time l else R
 |[],i,node,time=>by simp [A9,Ih]
 |h::l,i,node,time=>by
  unfold A9 GS Ih;simp only;by_cases hc:Bx cs r node time h≠0
  ·simp only [if_pos hc]
  ·simp only [if_neg hc];exact Qu cs r R l (i+1) _ _
theorem NG {cs:List AG} {r:Rqt} {node time:Int} {h:Hop} (hc:Bx cs r node time h=0):0≤h.con∧h.con<cs.length∧∃c,cs[h.con.toNat]? = some c∧G8 cs h.con=c.to∧Fk c h.beg r.size=true∧h=SF h.con c h.beg r.size:=by
 unfold Bx at hc;split at hc
 ·cases hc
 ·split at hc
  ·cases hc
  ·rename_i h1 c h2;refine ⟨by omega,by omega,c,h2,by simp only [G8,h2],?_⟩;split at hc
   ·cases hc
   ·split at hc
    ·cases hc
    ·split at hc
     ·cases hc
     ·split at hc
      ·cases hc
      ·rename_i g1 g2 g3 g4;exact ⟨by simpa using g3,not_not.1 g4⟩
def RI (cs:List AG) (r:Rqt) (l:List Hop):Int:=match l.getLast? with
 |none=>0
 |some h=>if G8 cs h.con≠r.dst then 18 else if h.arr>r.dead then 16 else 0
theorem s49 (q:List Int) (cs:List AG) (r:Rqt) (l:List Hop):Af C 49 [.sl 1 (q.map encI),.sl 7 (cs.map AG.enc),tI r.src,tI r.dst,tI r.size,tI r.ready,tI r.dead,tI r.prio,.bool r.cust,.sl 4 (l.map Hop.enc)] [tI (BY q cs r l)]:=by
 refine Af.of (fun n=>e49 n _ _ _ _ _ _ _ _ _ _) ?_;refine Ev.rw (T' := ?T') (s71 q cs r) (fun n h => ?a) ?b
 case a=>
  simp only [h,vv,reduceCtorEq,reduceAdd,reduceEqDiff];rfl
 case b=>
  by_cases h1:BG q cs r=0∧l.length≠0∧l.length≤1000
  ·have hlen:=h1.2.1;have hlast:l.getLast? = some l[l.length-1]:=by rw [List.getLast?_eq_getElem?,getElem?_eq_getElem (by omega)]
   have hle:l[l.length-1]? = some l[l.length-1]:=getElem?_eq_getElem (by omega);have e1:w64 ((l.length:Int)-1)=((l.length-1:Nat):Int):=by rw [A6 (by omega) (by omega)];omega
   simp only [h1.1,bne_self_eq_false,(show ¬(1000:Int)<l.length by omega),(show ((l.length:Int)==0)=false from beq_eq_false_iff_ne.2 (by omega)),vv,reduceCtorEq,reduceAdd,reduceEqDiff,e1];have hr:BY q cs r l=A9 (GS cs r) (fun _=>RI cs r l) 0 l (r.src,r.ready):=by
    rw [Qu];unfold BY RI;rw [if_neg (by omega),if_neg (by omega),if_neg (by omega)]
    try rfl
   refine An (fun r=>[tI r]) l (fun i (s:Int×Int)=>(([.t (tI i)],[.box [.t (tI 0)],.box [],.box [.t (tI s.1),.t (tI s.2)]]):List AV×Heap)) (GS cs r) (fun _=>RI cs r l)
    (fun i s=>i≤l.length∧∀h,0<i→l[i-1]? = some h→0≤h.con∧h.con<cs.length) (r.src,r.ready) rfl ⟨zero_le _,fun h hi=>absurd hi (Nat.lt_irrefl 0)⟩ hr.symm
    (fun i s x hx hI => ?_) (fun i s x s' hx hI h => ?_) (fun s hI=>Ev.of fun n again => ?_)
   ·have hi:=AN hx;obtain ⟨node,time⟩:=s;refine (s100 q cs r node time x).mono fun n k again => ?_;simp only [vv,reduceCtorEq,reduceAdd,reduceEqDiff,hx,Hop.enc,k,AY (show i<4611686018427387904 by omega),(show (i:Int)<l.length by omega),GS];by_cases hc:Bx cs r node time x=0
    ·obtain ⟨a1,a2,c,a3,a4,a5,a6⟩:=NG hc;simp only [hc,bne_self_eq_false,vv,reduceCtorEq,reduceAdd,reduceEqDiff,(show ¬x.con<0 by omega),(show ¬(cs.length:Int)≤x.con by omega),a1,a3,AG.enc,ne_eq,not_true_eq_false,Rd.Ae,a4]
    ·simp only [bne_iff_ne.2 hc,ne_eq,hc,not_false_eq_true,vv,reduceCtorEq,reduceAdd,reduceEqDiff,Rd.Ap]
   ·have hi:=AN hx;unfold GS at h;by_cases hc:Bx cs r s.1 s.2 x=0
    ·rw [if_neg (by omega)] at h;obtain ⟨a1,a2,_⟩:=NG hc;refine ⟨by omega,fun y _ hy => ?_⟩;rw [Nat.add_sub_cancel,hx] at hy;cases hy;exact ⟨a1,a2⟩
    ·rw [if_pos hc] at h;cases h
   ·obtain ⟨a1,a2⟩:=hI.2 _ (by omega) hle;simp only [vv,reduceCtorEq,reduceAdd,reduceEqDiff,lt_irrefl,hle,Hop.enc,a1,RI,hlast];generalize l[l.length-1]=x at a1 a2;have hc:cs[x.con.toNat]? = some cs[x.con.toNat]:=getElem?_eq_getElem (by omega);have ht:G8 cs x.con=cs[x.con.toNat].to:=by simp only [G8,hc]
    simp only [hc,vv,reduceCtorEq,reduceAdd,reduceEqDiff,AG.enc,ht,EP,bne_iff_ne,ne_eq]
  ·refine Ev.of fun n => ?_;simp only [BY,bne_iff_ne,beq_iff_eq,vv,reduceCtorEq,reduceAdd,reduceEqDiff];by_cases h2:BG q cs r=0
   ·by_cases h3:l.length=0
    ·simp [h2,h3,AI]
    ·simp only [h2,ne_eq,not_true_eq_false,vv,reduceCtorEq,reduceAdd,reduceEqDiff,h3,(show ¬(l.length:Int)=0 by omega),(show (1000:Int)<l.length by omega),(show (1000:Nat)<l.length by omega)]
   ·simp [h2,AI]
theorem Pe {q:List Int} {cs:List AG} {r:Rqt} {l:List Hop} (h:BY q cs r l=0):BG q cs r=0∧l.length≤1000∧l.length≠0∧Ih cs r r.src r.ready l=0:=by
 unfold BY at h;split at h
 ·cases h
 ·split at h
  ·cases h
  ·split at h
   ·cases h
   ·split at h
    ·rename_i h1 h2 h3 h4;exact (h4 h).elim
    ·rename_i h1 h2 h3 h4;exact ⟨by simpa using h1,by omega,by omega,by simpa using h4⟩
def Un (cs:List AG) (h:Hop):Prop:=0≤h.con∧h.con<cs.length∧0≤h.beg∧h.beg≤1099511627776∧0≤h.stop∧h.stop≤1099511627776∧0≤h.arr∧h.arr≤2199023255552
theorem Ss {q:List Int} {cs:List AG} (hp:AQ q cs=0) {r:Rqt}:∀{l:List Hop} {node time:Int},Ih cs r node time l=0→∀h∈l,Un cs h
 |[],_,_,_,h,hm=>by cases hm
 |x::l,node,time,hw,h,hm=>by
  unfold Ih at hw;split at hw
  ·contradiction
  ·rename_i hc;rcases mem_cons.1 hm with rfl|hm
   ·obtain ⟨a1,a2,c,a3,a4,a5,a6⟩:=NG (not_not.1 hc);unfold Fk at a5;simp only [decide_eq_true_eq] at a5;have hcn:AX c=0∧1≤r.size∧r.size≤65536:=by
     have hd:=a5.1;unfold By at hd;split at hd
     ·cases hd
     ·split at hd
      ·omega
      ·cases hd
    have o:=BO hcn.1;have d:=EZ hcn.1 (n:=r.size) (by omega) hcn.2.2;have e2:h.stop=h.beg+Cw c r.size:=congrArg Hop.stop a6;have e3:h.arr=h.beg+Cw c r.size+c.rng:=congrArg Hop.arr a6;exact ⟨a1,a2,by omega,by omega,by omega,by omega,by omega,by omega⟩
   ·exact Ss hp hw h hm
theorem s101 (q:List Int) (cs:List AG) (hp:AQ q cs=0) (r:Rqt) (h:Hop) (hi:Un cs h):Af C 101 [.sl 1 (q.map encI),.sl 7 (cs.map AG.enc),tI r.src,tI r.dst,tI r.size,tI r.ready,tI r.dead,tI r.prio,.bool r.cust,tI h.con,tI h.beg,tI h.stop,tI h.arr] [tI (Kk cs r h)]:=by obtain ⟨a1,a2,a3,a4,a5,a6,a7,a8⟩:=hi;have hc:cs[h.con.toNat]? = some cs[h.con.toNat]:=getElem?_eq_getElem (by omega);generalize cs[h.con.toNat]=c at hc;have o:=BO (Mw hp c (mem_of_getElem? hc));refine Af.of (fun m=>e101 m _ _ _ _ _ _ _ _ _ _ _ _ _) (Ev.of fun m => ?_);simp only [vv,reduceCtorEq,reduceAdd,reduceEqDiff,hc,AG.enc,a1,Kk,OE,A6 (x:=2*c.rng) (by omega) (by omega),A6 (x:=h.stop+2*c.rng) (by omega) (by omega)];cases r.cust<;>simp [AI]
def QE (i:Nat) (s:List AP×Int×Int×Int):List AV×Heap:=([.t (tI i)],[.row false s.1.length 5 (s.1.map AP.enc),.box [.sref 0 s.1.length 0 s.1.length],.box [.t (tI s.2.1)],.box [],.box [.t (tI s.2.2.1),.t (tI s.2.2.2)]])
def II (cs:List AG) (r:Rqt) (ticket:Int) (_:Nat) (s:List AP×Int×Int×Int) (h:Hop):Rd (List AP×Int×Int×Int) (List AP):=
 .next (s.1++[⟨s.2.2.1,s.2.1,Kk cs r h,r.size,ticket⟩],h.beg,G8 cs h.con,h.arr)
theorem RN (cs:List AG) (r:Rqt) (ticket:Int):∀(l:List Hop) (i:Nat) (out:List AP) (fr node time:Int),A9 (II cs r ticket) (fun s=>s.1) i l (out,fr,node,time)=out++DI cs r ticket node fr l
 |[],i,out,fr,node,time=>by simp [A9,DI]
 |h::l,i,out,fr,node,time=>by unfold A9 II DI;simp only;refine (RN cs r ticket l (i+1) _ _ _ _).trans ?_;rw [append_assoc];rfl
theorem M9 (l:List AP):Av 5 (l.map AP.enc)=true:=by simp [Av,AP.enc,G2]
theorem NA (l:List AJ):Av 4 (l.map AJ.enc)=true:=by simp [Av,AJ.enc,G2]
def lift {α:Type} (enc:α→List Tree) (dec:List Tree→α) (F:List (List Tree)→List (List Tree)) (l:List α):List α:=(F (l.map enc)).map dec
theorem Kh {α:Type} {enc:α→List Tree} {dec:List Tree→α} {F:List (List Tree)→List (List Tree)} (hde:∀x,dec (enc x)=x) (hF:∀d,(F d).Perm d) (l:List α):(lift enc dec F l).map enc=F (l.map enc):=by unfold lift;rw [map_map];refine (map_congr_left fun y hy => ?_).trans (map_id _);obtain ⟨x,_,rfl⟩:=mem_map.1 ((hF _).mem_iff.1 hy);simp only [Function.comp,hde,id]
theorem Is {α:Type} {enc:α→List Tree} {dec:List Tree→α} {F:List (List Tree)→List (List Tree)} (hde:∀x,dec (enc x)=x) (hF:∀d,(F d).Perm d) (l:List α):(lift enc dec F l).Perm l:=by have h1:=(hF (l.map enc)).map dec;rw [map_map] at h1;have h2:l.map (dec ∘ enc)=l:=(map_congr_left fun x _=>hde x).trans (map_id l);rw [h2] at h1;exact h1
def RR (e:List Tree):AP:=⟨intOf (e.getD 0 default),intOf (e.getD 1 default),intOf (e.getD 2 default),intOf (e.getD 3 default),intOf (e.getD 4 default)⟩
def RS (e:List Tree):AJ:=⟨intOf (e.getD 0 default),intOf (e.getD 1 default),intOf (e.getD 2 default),intOf (e.getD 3 default)⟩
theorem Jd (h:AP):RR h.enc=h:=rfl
theorem Je (h:AJ):RS h.enc=h:=rfl
noncomputable def shI:List AP→List AP:=lift AP.enc RR (Fo (BL [0,1,2,4,3]))
noncomputable def sbI:List AJ→List AJ:=lift AJ.enc RS (NC (BL [0,1]))
theorem shI_enc (l:List AP):(shI l).map AP.enc=Fo (BL [0,1,2,4,3]) (l.map AP.enc):=Kh Jd (fun d=>Dk (CA _) d) l
theorem sbI_enc (l:List AJ):(sbI l).map AJ.enc=NC (BL [0,1]) (l.map AJ.enc):=Kh Je (fun d=>FC (CA _) d) l
theorem KB (l:List AP):(shI l).Perm l:=Is Jd (fun d=>Dk (CA _) d) l
theorem KD (l:List AJ):(sbI l).Perm l:=Is Je (fun d=>FC (CA _) d) l
theorem s50 (q:List Int) (cs:List AG) (hp:AQ q cs=0) (r:Rqt) (l:List Hop) (hl:l.length≤1000) (hin:∀h∈l,Un cs h) (ticket:Int):Af C 50 [.sl 1 (q.map encI),.sl 7 (cs.map AG.enc),tI r.src,tI r.dst,tI r.size,tI r.ready,tI r.dead,tI r.prio,.bool r.cust,.sl 4 (l.map Hop.enc),tI ticket]
  [.sl 5 ((shI (DI cs r ticket r.src r.ready l)).map AP.enc)]:=by
 refine Af.of (fun n=>e50 n _ _ _ _ _ _ _ _ _ _ _) ?_;refine An (fun (o:List AP)=>[Tree.sl 5 ((shI o).map AP.enc)]) l QE (II cs r ticket) (fun s=>s.1) (fun i s=>s.1.length=i∧i≤l.length) ([],r.ready,r.src,r.ready) rfl (by simp) ((RN cs r ticket l 0 [] _ _ _).trans (nil_append _))
  (fun i s x hx hI => ?_) (fun i s x s' hx hI h => ?_) (fun s hI=>Ev.of fun n again => ?_)
 ·have hi:=AN hx;have hx2:=hin x (mem_of_getElem? hx);obtain ⟨a1,a2,a3,a4,a5,a6,a7,a8⟩:=hx2;have hc:cs[x.con.toNat]? = some cs[x.con.toNat]:=getElem?_eq_getElem (by omega);have ht:G8 cs x.con=cs[x.con.toNat].to:=by simp only [G8,hc]
  have b1:s.1.length+1≤1073741824:=by omega
  have t3:take s.1.length (s.1.map AP.enc)=s.1.map AP.enc:=take_of_length_le (by simp);refine (s101 q cs hp r x ⟨a1,a2,a3,a4,a5,a6,a7,a8⟩).mono fun n k again => ?_;simp only [QE,vv,reduceCtorEq,reduceAdd,reduceEqDiff,hx,Hop.enc,k,AY (show i<4611686018427387904 by omega),(show (i:Int)<l.length by omega),b1,t3,le_refl,(show ¬x.con<0 by omega),(show ¬(cs.length:Int)≤x.con by omega),a1,hc,AG.enc,II,Rd.Ae,ht,length_append,map_append,map_cons,map_nil,AP.enc]
 ·have hi:=AN hx;unfold II at h;simp only [Rd.next.injEq] at h;subst h;simp only [length_append,length_cons,length_nil];omega
 ·have b1:s.1.length≤1073741824:=by omega
  have t3:take s.1.length (s.1.map AP.enc)=s.1.map AP.enc:=take_of_length_le (by simp);have e1:A0 (s.1.map AP.enc) 0 ((shI s.1).map AP.enc)=(shI s.1).map AP.enc:=FM (by simp [(KB s.1).length_eq]);have t4:take s.1.length ((shI s.1).map AP.enc)=(shI s.1).map AP.enc:=take_of_length_le (by simp [(KB s.1).length_eq]);simp only [QE,vv,reduceCtorEq,reduceAdd,reduceEqDiff,lt_irrefl,b1,t3,le_refl,M9,← shI_enc,e1,t4]
end Ab
namespace Ab
open Go
def UN (i:Nat) (s:List AJ):List AV×Heap:=([.sref 0 s.length 0 s.length,.t (tI i)],[.row false s.length 4 (s.map AJ.enc)])
theorem s11 (l:List Hop) (hl:l.length≤19) (ticket:Int):Af C 11 [.sl 4 (l.map Hop.enc),tI ticket] [.sl 4 ((sbI (l.map (LH ticket))).map AJ.enc)]:=by
 refine Af.of (fun n=>e11 n _ _) ?_;refine An (fun (o:List AJ)=>[Tree.sl 4 ((sbI o).map AJ.enc)]) l UN (fun _ s x =>.next (s++[LH ticket x])) (fun s=>s) (fun i s=>s.length=i∧i≤l.length) [] rfl (by simp) ?_
  (fun i s x hx hI=>Ev.of fun n again => ?_) (fun i s x s' hx hI h => ?_) (fun s hI=>Ev.of fun n again => ?_)
 ·rw [CJ];have:∀(l:List Hop) (s:List AJ),l.foldl (fun s x=>s++[LH ticket x]) s=s++l.map (LH ticket):=fun l=>by
   induction l with
   |nil=>intro s;simp
   |cons a l ih=>intro s;rw [foldl_cons,ih];simp
  exact (this l []).trans (nil_append _)
 ·have hi:=AN hx;have b1:s.length+1≤1073741824:=by omega
  have t3:take s.length (s.map AJ.enc)=s.map AJ.enc:=take_of_length_le (by simp);simp only [UN,vv,reduceCtorEq,reduceAdd,reduceEqDiff,hx,Hop.enc,AY (show i<4611686018427387904 by omega),(show (i:Int)<l.length by omega),b1,t3,le_refl,Rd.Ae,length_append,map_append,map_cons,map_nil,AJ.enc,LH]
 ·have hi:=AN hx;simp only [Rd.next.injEq] at h;subst h;simp only [length_append,length_cons,length_nil];omega
 ·have b1:s.length≤19:=by omega
  have t3:take s.length (s.map AJ.enc)=s.map AJ.enc:=take_of_length_le (by simp);have e1:A0 (s.map AJ.enc) 0 ((sbI s).map AJ.enc)=(sbI s).map AJ.enc:=FM (by simp [(KD s).length_eq]);have t4:take s.length ((sbI s).map AJ.enc)=(sbI s).map AJ.enc:=take_of_length_le (by simp [(KD s).length_eq]);simp only [UN,vv,reduceCtorEq,reduceAdd,reduceEqDiff,lt_irrefl,b1,t3,le_refl,NA,← sbI_enc,e1,t4]
theorem LS (q:List Int) (cs:List AG) (R:Int):∀(l:List AJ) (i:Nat) (cur:List AJ),A9 (fun _ cur b=>if FH q cs cur b≠0 then .done 14 else .next (JD q cs cur b)) (fun _=>R) i l cur=if (E2 q cs cur l).isNone then 14 else R
 |[],i,cur=>by simp [A9,E2]
 |b::l,i,cur=>by
  unfold A9 E2;by_cases hc:FH q cs cur b≠0
  ·simp only [if_pos hc,Option.isNone_none,if_true]
  ·simp only [if_neg hc];exact LS q cs R l (i+1) _
theorem J4 (q:List Int) (cs:List AG):∀(l:List AP) (i:Nat) (cur:List AP),A9 (fun _ cur b=>if Cz q cs cur b≠0 then .done 15 else .next (Ls q cs cur b)) (fun _=>0) i l cur=if Fp q cs cur l=false then (15:Int) else 0
 |[],i,cur=>by simp [A9,Fp]
 |b::l,i,cur=>by
  unfold A9 Fp;by_cases hc:Cz q cs cur b≠0
  ·simp only [if_pos hc,if_true]
  ·simp only [if_neg hc];have h0:Cz q cs cur b=0:=not_not.1 hc;have e1:Ls q cs cur b=QA cur b:=by simp only [Ls,h0,if_true]
   rw [e1];exact J4 q cs l (i+1) _
theorem s18 (q:List Int) (cs:List AG) (bs:List AJ) (hs:List AP) (r:Rqt) (l:List Hop) (hl:l.length≤19) :
  Af C 18 [.sl 1 (q.map encI),.sl 7 (cs.map AG.enc),.sl 4 (bs.map AJ.enc),.sl 5 (hs.map AP.enc),tI r.src,tI r.dst,tI r.size,tI r.ready,tI r.dead,tI r.prio,.bool r.cust,.sl 4 (l.map Hop.enc)] [tI (Fa sbI shI q cs bs hs r l)]:=by
 refine Af.of (fun n=>e18 n _ _ _ _ _ _ _ _ _ _ _ _) ?_;by_cases h1:Be q cs bs hs=0∧BY q cs r l=0
 ·obtain ⟨p1,p2,p3⟩:=Bp h1.1;obtain ⟨r1,r2,r3,r4⟩:=Pe h1.2;have hin:=Ss p1 r4;have hbl:bs.length≤512:=(CY p2).2.1;have hhl:hs.length≤512:=(D1 p3).2.1;have hul:(DI cs r 0 r.src r.ready l).length=l.length:=by
   have:∀(l:List Hop) (a b:Int),(DI cs r 0 a b l).length=l.length:=fun l=>by
    induction l with
    |nil=>intro a b;rfl
    |cons x l ih=>intro a b;simp only [DI,length_cons,ih]
   exact this l _ _
  have hsl:(shI (DI cs r 0 r.src r.ready l)).length=l.length:=by rw [(KB _).length_eq,hul]
  have hbl2:(sbI (l.map (LH 0))).length=l.length:=by rw [(KD _).length_eq,length_map]
  refine Ev.rw (T' := ?T') ((s17 q cs bs hs).and ((s49 q cs r l).and ((s50 q cs p1 r l (by omega) hin 0).and (s11 l hl 0)))) (fun n h => ?a) ?b
  case a=>
   simp only [h.1,h.2.1,h.2.2.1,h.2.2.2,vv,reduceCtorEq,reduceAdd,reduceEqDiff,h1.1,h1.2,bne_self_eq_false,hsl,A6 (x:=(bs.length:Int)+l.length) (by omega) (by omega),A6 (x:=(hs.length:Int)+l.length) (by omega) (by omega)];rfl
  case b=>
   unfold Fa;rw [if_neg (by omega),if_neg (by omega),hul];by_cases hlim:bs.length+l.length>512∨hs.length+l.length>512
   ·rw [if_pos hlim];refine Ev.of fun n => ?_;simp only [AI];grind
   ·rw [if_neg hlim];simp only [(show ¬(512:Int)<(bs.length:Int)+l.length by omega),(show ¬(512:Int)<(hs.length:Int)+l.length by omega),vv,reduceCtorEq,reduceAdd,reduceEqDiff];generalize sbI (l.map (LH 0))=bl at hbl2;generalize shI (DI cs r 0 r.src r.ready l)=hl2 at hsl;rw [← J4 q cs hl2 0 hs,← LS q cs _ bl 0 bs];refine An (fun r=>[tI r]) bl (fun i (s:List AJ)=>(([.t (.sl 4 (s.map AJ.enc)),.t (tI i)],[]):List AV×Heap)) (fun _ cur b=>if FH q cs cur b≠0 then .done 14 else .next (JD q cs cur b)) _ (fun i s=>True) bs rfl trivial rfl
     (fun i s x hx hI => ?_) (fun i s x s' hx hI h=>trivial) (fun s hI => ?_)
    ·have hi:=AN hx;refine (s12 q cs s x).mono fun n k again => ?_;simp only [vv,reduceCtorEq,reduceAdd,reduceEqDiff,hx,AJ.enc,k,AY (show i<4611686018427387904 by omega),(show (i:Int)<l.length by omega),hbl2];by_cases hc:FH q cs s x=0
     ·simp only [hc,bne_self_eq_false,ne_eq,not_true_eq_false,vv,reduceCtorEq,reduceAdd,reduceEqDiff,Rd.Ae]
     ·simp only [bne_iff_ne.2 hc,ne_eq,hc,not_false_eq_true,vv,reduceCtorEq,reduceAdd,reduceEqDiff,Rd.Ap]
    ·simp only [vv,reduceCtorEq,reduceAdd,reduceEqDiff,hbl2,lt_irrefl];refine Ev.mono (fun n h again=>h) ?_;refine An (fun r=>[tI r]) hl2 (fun i (s:List AP)=>(([.t (.sl 5 (s.map AP.enc)),.t (tI i)],[]):List AV×Heap)) (fun _ cur b=>if Cz q cs cur b≠0 then .done 15 else .next (Ls q cs cur b)) _ (fun i s=>True) hs rfl trivial rfl
      (fun i s x hx hI => ?_) (fun i s x s' hx hI h=>trivial) (fun s hI=>Ev.of fun n again => ?_)
     ·have hi:=AN hx;refine (s51 q cs s x).mono fun n k again => ?_;simp only [vv,reduceCtorEq,reduceAdd,reduceEqDiff,hx,AP.enc,k,AY (show i<4611686018427387904 by omega),(show (i:Int)<l.length by omega),hsl];by_cases hc:Cz q cs s x=0
      ·simp only [hc,bne_self_eq_false,ne_eq,not_true_eq_false,vv,reduceCtorEq,reduceAdd,reduceEqDiff,Rd.Ae]
      ·simp only [bne_iff_ne.2 hc,ne_eq,hc,not_false_eq_true,vv,reduceCtorEq,reduceAdd,reduceEqDiff,Rd.Ap]
     ·simp only [vv,reduceCtorEq,reduceAdd,reduceEqDiff,hsl,lt_irrefl]
 ·by_cases h2:Be q cs bs hs=0
  ·have h3:BY q cs r l≠0:=fun e=>h1 ⟨h2,e⟩;refine ((s17 q cs bs hs).and (s49 q cs r l)).mono fun n ⟨k1,k2⟩=> ?_;simp only [k1,k2,vv,reduceCtorEq,reduceAdd,reduceEqDiff,h2,bne_self_eq_false,bne_iff_ne.2 h3];simp only [Fa,h2,ne_eq,not_true_eq_false,if_false,h3,not_false_eq_true,if_true]
  ·refine (s17 q cs bs hs).mono fun n k1 => ?_;simp only [k1,vv,reduceCtorEq,reduceAdd,reduceEqDiff,bne_iff_ne.2 h2];simp only [Fa,ne_eq,h2,not_false_eq_true,if_true]
def Ix (q:List Int) (cs:List AG):Bool:=decide (6<q.length∨10<cs.length)
theorem s56 (q:List Int) (cs:List AG):Af C 56 [.sl 1 (q.map encI),.sl 7 (cs.map AG.enc)] [.bool (Ix q cs)]:=by
 refine Af.of (fun n=>e56 n _ _) (Ev.of fun n => ?_);have e1:(6:Int)<(q.length:Int)↔6<q.length:=by omega
 have e2:(10:Int)<(cs.length:Int)↔10<cs.length:=by omega
 simp only [Ix,vv,reduceCtorEq,reduceAdd,reduceEqDiff,AI,e1,e2];by_cases h1:6<q.length<;>by_cases h2:10<cs.length<;>simp [h1,h2]
def Iw (q:List Int) (cs:List AG) (bs:List AJ) (hs:List AP):Bool:=Ix q cs||decide (30<bs.length)||decide (30<hs.length)
theorem s23 (q:List Int) (cs:List AG) (bs:List AJ) (hs:List AP):Af C 23 [.sl 1 (q.map encI),.sl 7 (cs.map AG.enc),.sl 4 (bs.map AJ.enc),.sl 5 (hs.map AP.enc)] [.bool (Iw q cs bs hs)]:=by
 refine Af.of (fun n=>e23 n _ _ _ _) ?_;refine (s56 q cs).mono fun n h => ?_;have e1:(30:Int)<(bs.length:Int)↔30<bs.length:=by omega
 have e2:(30:Int)<(hs.length:Int)↔30<hs.length:=by omega
 simp only [h,vv,reduceCtorEq,reduceAdd,reduceEqDiff,Iw,AI,e1,e2];cases Ix q cs<;>by_cases h1:30<bs.length<;>by_cases h2:30<hs.length<;>simp [h1,h2]
def MN (q:List Int) (cs:List AG) (bs:List AJ) (hs:List AP) (r:Rqt):Bool := !Iw q cs bs hs&&decide (De q cs bs hs=0)&&decide (BG q cs r=0)
theorem s6 (q:List Int) (cs:List AG) (bs:List AJ) (hs:List AP) (r:Rqt):Af C 6 [.sl 1 (q.map encI),.sl 7 (cs.map AG.enc),.sl 4 (bs.map AJ.enc),.sl 5 (hs.map AP.enc),tI r.src,tI r.dst,tI r.size,tI r.ready,tI r.dead,tI r.prio,.bool r.cust] [.bool (MN q cs bs hs r)]:=by refine Af.of (fun n=>e6 n _ _ _ _ _ _ _ _ _ _ _) ?_;refine ((s23 q cs bs hs).and ((s24 q cs bs hs).and (s25 q cs r))).mono fun n ⟨h1,h2,h3⟩=> ?_;simp only [h1,h2,h3,vv,reduceCtorEq,reduceAdd,reduceEqDiff,MN,AI,beq_iff_eq];cases Iw q cs bs hs<;>by_cases k1:De q cs bs hs=0<;>by_cases k2:BG q cs r=0<;>simp [k1,k2]
end Ab
namespace Ab
open Go
theorem TC (es:List (List Tree)) (hl:es.length≤1073741824):Af C 1000014 [.sl 7 es] [.sl 7 es]:=by
 refine Af.of (fun n=>Tu n _) (Ev.of fun n => ?_);by_cases h:es.length=0
 ·have:es=[]:=eq_nil_of_length_eq_zero h;subst this;simp [AI,I7]
 ·rw [Cj h,Cj hl,take_of_length_le (le_refl _)]
theorem find3 (a b c:Int):(([a,b,c]).find? (· ≠ 0)).getD 0=if a≠0 then a else if b≠0 then b else c:=by by_cases h1:a=0<;>by_cases h2:b=0<;>by_cases h3:c=0<;>simp [h1,h2,h3]
theorem s88 (a b:Lab):Af C 88 (a.enc++b.enc) [tI (I3 a b)]:=by refine Af.of (fun n=>e88 n _ _ _ _ _ _ _ _) ?_;refine ((s35 a.time b.time).and ((s35 a.node b.node).and ((s35 a.frm b.frm).and (s34 [Cr a.time b.time,Cr a.node b.node,Cr a.frm b.frm] (by simp))))).mono fun n ⟨h1,h2,h3,h4⟩=> ?_;simp only [map_cons,map_nil,encI] at h4;rw [find3] at h4;simp only [h1,h2,h3,h4,vv,reduceCtorEq,reduceAdd,reduceEqDiff];rfl
theorem s91 (a b:Lab):Af C 91 (a.enc++b.enc) [.bool (A3 a b)]:=by refine Af.of (fun n=>e91 n _ _ _ _ _ _ _ _) (Ev.of fun n => ?_);simp only [vv,reduceCtorEq,reduceAdd,reduceEqDiff,A3,beq_iff_eq];by_cases h1:a.node=b.node<;>by_cases h2:a.frm=b.frm<;>simp [h1,h2,AI]
structure Tb where
 q:List Int
 cs:List AG
 bs:List AJ
 hs:List AP
 r:Rqt
def Tb.g (T:Tb):Gr:=gOf T.q T.cs T.bs T.hs T.r
def spE (l:List Span):List Tree:=[.sl 2 (l.map Span.enc)]
def gH (T:Tb) (ga ro:List (List Span)) (du:List Int) (suf:Heap):Heap:=
 .row false ga.length 1 (ga.map spE) :: .row false ro.length 1 (ro.map spE) :: .row false du.length 1 (du.map encI) ::
 .box [.t (.sl 1 (T.q.map encI)),.t (.sl 7 (T.cs.map AG.enc)),.t (.sl 4 (T.bs.map AJ.enc)),.t (.sl 5 (T.hs.map AP.enc)),.t (tI T.r.src),.t (tI T.r.dst),.t (tI T.r.size),.t (tI T.r.ready),.t (tI T.r.dead),.t (tI T.r.prio),.t (.bool T.r.cust),
  .sref 0 ga.length 0 ga.length,.sref 1 ro.length 0 ro.length,.sref 2 du.length 0 du.length]::suf
structure LSt where
 done:List Lab
 vo:Nat
 opn:List Lab
 jk:List (List Tree)
def LSt.push (s:LSt) (y:Lab):LSt:=⟨s.done,s.vo+1,s.opn++[y],[]⟩
def lH (T:Tb) (s:LSt) (suf:Heap):Heap:=
 gH T T.g.gaps T.g.Ar T.g.dur (.box [.ptr 3 0] :: .row false s.done.length 4 (s.done.map Lab.enc) :: .box [.sref 5 s.done.length 0 s.done.length] :: .row false s.vo 4 (s.opn.map Lab.enc++s.jk) :: .box [.sref 7 s.vo 0 s.opn.length]::suf)
def xA (x:Lab):List AV:=[.t (tI x.node),.t (tI x.frm),.t (tI x.to),.t (tI x.time)]
def rgE (a:Span):List Tree:=[tI a.frm,tI a.to]
def hpA:Option Hop→List AV
 |none=>[.t (tI 0),.t (tI 0),.t (tI 0),.t (tI 0),.t (.bool false)]
 |some h=>[.t (tI h.con),.t (tI h.beg),.t (tI h.stop),.t (tI h.arr),.t (.bool true)]
def HS:AA :=.box [.t (tI 0),.t (tI 0),.t (tI 0),.t (tI 0)]
def DB (fr:Int) (x:Span):Int:=if fr>x.frm then fr else x.frm
def Gc (c:AG) (k:Nat) (n fr:Int) (_:Nat) (_:Unit) (x:Span):Rd Unit (Option Hop):=if DB fr x+n≤x.to then .done (some ⟨k,DB fr x,DB fr x+n,DB fr x+n+c.rng⟩) else .next ()
theorem NF (c:AG) (k:Nat) (n fr:Int):∀(gs:List Span) (i:Nat),A9 (Gc c k n fr) (fun _=>none) i gs ()=IF k c n gs fr
 |[],i=>rfl
 |x::l,i=>by
  unfold A9 Gc IF C3;by_cases h:DB fr x+n≤x.to
  ·have h':(if fr>x.frm then fr else x.frm)+n≤x.to:=h;simp only [if_pos h,if_pos h',map_some];rfl
  ·have h':¬(if fr>x.frm then fr else x.frm)+n≤x.to:=h;simp only [if_neg h,if_neg h'];exact NF c k n fr l (i+1)
def Sm (x:Int):Prop := -4398046511104≤x∧x≤4398046511104
theorem S4 {x y:Int} (hx:Sm x) (hy:Sm y):w64 (x+y)=x+y:=by unfold Sm at hx hy;exact A6 (by omega) (by omega)
theorem hop42 (T:Tb) (s:LSt) (x:Lab) (hp:Heap) (rm:Span) (k:Nat) (c:AG) (hk:T.cs[k]? = some c) (d:Int) (hd:Sm d) (ht:Sm x.time) (hr:Sm rm.frm) (hc:0≤c.rng∧c.rng≤1048576) (kh:Heap)
  (gs:List Span) (hgs:∀a∈gs,Sm a.frm∧Sm a.to) (hgl:gs.length≤100000) :
  Ev fun n=>∀z,AO (fun p again=>Nl n (spE gs) (rgE rm) (xA x,hp) [tI d] ([.t (tI k)],kh) z p again) n ([.t (tI (0:Nat))],lH T s [.box [],.box [.ptr 3 0],.box [],.box [],.box [],HS])
   = z (hpA (IF k c d gs (if rm.frm>x.time then rm.frm else x.time)),lH T s [.box [],.box [.ptr 3 0],.box [],.box [],.box []]):=by
 refine BZ gs (fun i _=>(([.t (tI i)],lH T s [.box [],.box [.ptr 3 0],.box [],.box [],.box [],HS]):List AV×Heap)) (Gc c k d (if rm.frm>x.time then rm.frm else x.time)) (fun _=>none)
  (fun (z:List AV×Heap→Option (List Tree)) o=>z (hpA o,lH T s [.box [],.box [.ptr 3 0],.box [],.box [],.box []])) (fun _ _=>True) () rfl trivial (NF c k d _ gs 0)
  (fun i s' a ha hI=>Ev.of fun n z again => ?_) (fun _ _ _ _ _ _ _=>trivial) (fun s' hI=>Ev.of fun n z again => ?_)
 ·have hi:=AN ha;obtain ⟨h1,h2⟩:=hgs a (mem_of_getElem? ha);have hb:Sm (DB (if rm.frm>x.time then rm.frm else x.time) a):=by unfold DB Sm at *;omega
  have e1:w64 (DB (if rm.frm>x.time then rm.frm else x.time) a+d)=DB (if rm.frm>x.time then rm.frm else x.time) a+d:=S4 hb hd;have e3:w64 (DB (if rm.frm>x.time then rm.frm else x.time) a+d+c.rng)=DB (if rm.frm>x.time then rm.frm else x.time) a+d+c.rng:=by unfold Sm at hb hd;exact A6 (by omega) (by omega)
  have e4:(if (if rm.frm>x.time then rm.frm else x.time)>a.frm then (if rm.frm>x.time then rm.frm else x.time) else a.frm)=DB (if rm.frm>x.time then rm.frm else x.time) a:=rfl;simp only [gt_iff_lt] at e1 e3 e4;simp only [Nl,lH,gH,spE,rgE,xA,HS,vv,reduceCtorEq,reduceAdd,reduceEqDiff,ha,Span.enc,e1,e3,e4,hk,AG.enc,(show (i:Int)<gs.length by omega),AY (show i<4611686018427387904 by omega),Gc];by_cases hc2:DB (if x.time<rm.frm then rm.frm else x.time) a+d≤a.to
  ·simp only [hc2,vv,reduceCtorEq,reduceAdd,reduceEqDiff,Rd.Ap,hpA]
  ·simp only [hc2,vv,reduceCtorEq,reduceAdd,reduceEqDiff,Rd.Ae]
 ·simp only [Nl,lH,gH,spE,rgE,xA,HS,vv,reduceCtorEq,reduceAdd,reduceEqDiff,lt_irrefl,hpA]
end Ab
namespace Ab
open Go
def LSt.mv (T:Tb) (s:LSt) (m:Lab×Hop):LSt:=if (decide (m.1.node≠T.r.dst) && !s.done.any fun y=>A3 m.1 y)=true then s.push m.1 else s
def LSt.mvO (T:Tb) (s:LSt):Option (Lab×Hop)→LSt
 |none=>s
 |some m=>s.mv T m
def O8 (T:Tb) (x:Lab) (c:AG) (rm:Span) (h:Hop):Bool:=decide (Ew T.r c h>x.to∨h.arr>T.r.dead∨(c.to≠T.r.dst∧h.arr≥rm.to))
def mvH (T:Tb) (x:Lab) (c:AG) (rm:Span):Option Hop→Option (Lab×Hop)
 |none=>none
 |some h=>if Ew T.r c h>x.to∨h.arr>T.r.dead∨(c.to≠T.r.dst∧h.arr≥rm.to) then none else some (⟨c.to,rm.frm,rm.to,h.arr⟩,h)
theorem con44 (T:Tb) (s:LSt) (hl:s.done.length≤100000) (y:Lab) (c:AG) (rm:Span) (hy:y.node=c.to∧y.frm=rm.frm∧y.to=rm.to) (e:List AV) (p183:List AV×Heap) (h1:AB p183 6 0=s.done.length) (h2:AD p183 6 0=s.done.length) (h3:AE p183 6 0=0)
  (p175:List AV×Heap) (h4:vI p175 3=y.time) :
  Ev fun n=>∀z,AO (fun p again=>Nk n p183 c.enc (rgE rm) p175 z p again) n ([.t (tI (0:Nat))],lH T s [.box [],.box [.ptr 3 0],.box [],.box [],.box [],.box [],.box []])
   = z ([.t (tI (idx (fun b=>A3 y b) s.done))],lH T s [.box [],.box [.ptr 3 0],.box [],.box [],.box [],.box [],.box []]):=by
 obtain ⟨y1,y2,y3⟩:=hy;refine BZ s.done (fun i _=>(([.t (tI i)],lH T s [.box [],.box [.ptr 3 0],.box [],.box [],.box [],.box [],.box []]):List AV×Heap)) (fun i _ b=>if A3 y b=true then .done (i:Int) else .next ()) (fun _ => -1)
  (fun (z:List AV×Heap→Option (List Tree)) (o:Int)=>z ([.t (tI o)],lH T s [.box [],.box [.ptr 3 0],.box [],.box [],.box [],.box [],.box []])) (fun _ _=>True) () rfl trivial (MO _ s.done)
  (fun i s' a ha hI => ?_) (fun _ _ _ _ _ _ _=>trivial) (fun s' hI=>Ev.of fun n z again => ?_)
 ·have hi:=AN ha;refine (s91 y a).mono fun n h z again => ?_;simp only [Lab.enc,cons_append,nil_append,y1,y2,y3] at h;simp only [Nk,lH,gH,rgE,h1,h2,h3,h4,vv,reduceCtorEq,reduceAdd,reduceEqDiff,ha,Lab.enc,AG.enc,h,(show (i:Int)<s.done.length by omega),AY (show i<4611686018427387904 by omega)];cases A3 y a<;>simp [AI,Rd.Ap,Rd.Ae]
 ·simp only [Nk,lH,gH,rgE,h1,h2,h3,h4,vv,reduceCtorEq,reduceAdd,reduceEqDiff,lt_irrefl]
theorem mv50 (T:Tb) (s:LSt) (hl:s.done.length≤100000) (ho:s.opn.length≤10000000) (x:Lab) (hp:Heap) (rm:Span) (k:Nat) (c:AG) (hk:T.cs[k]? = some c) (hc:0≤c.rng∧c.rng≤1048576) (o:Option Hop) (hh:∀h,o=some h→h.con=k∧Sm h.stop) :
  Ev fun n=>∀z,HZ n z c.enc (rgE rm) (xA x,hp) (hpA o,lH T s [.box [],.box [.ptr 3 0],.box [],.box [],.box []])=z ([],lH T (s.mvO T (mvH T x c rm o)) [.box [],.box [.ptr 3 0],.box [],.box []]):=by
 cases o with
 |none=>
  refine Ev.of fun n z => ?_;simp only [HZ,Fe,lH,gH,hpA,mvH,LSt.mvO,vv,reduceCtorEq,reduceAdd,reduceEqDiff]
 |some h=>
  obtain ⟨c1,c2⟩:=hh h rfl;have e1:w64 (2*c.rng)=2*c.rng:=A6 (by omega) (by omega);have e2:w64 (h.stop+2*c.rng)=h.stop+2*c.rng:=by unfold Sm at c2;exact A6 (by omega) (by omega)
  have hA:∀n z,HZ n z c.enc (rgE rm) (xA x,hp) (hpA (some h),lH T s [.box [],.box [.ptr 3 0],.box [],.box [],.box []])=
    Fe n z c.enc (rgE rm) (hpA (some h),lH T s [.box [],.box [.ptr 3 0],.box [],.box [],.box []]) ([.t (.bool (O8 T x c rm h))],lH T s [.box [],.box [.ptr 3 0],.box [],.box [],.box [],.box []]):=fun n z=>by
   have hB:∀lv:Int,∀w,Nt n (xA x,hp) w (hpA (some h),lH T s [.box [],.box [.ptr 3 0],.box [],.box [],.box []]) c.enc (rgE rm) ([.t (tI lv)],lH T s [.box [],.box [.ptr 3 0],.box [],.box [],.box [],.box []])=
     w ([.t (.bool (decide (lv>x.to∨h.arr>T.r.dead∨(c.to≠T.r.dst∧h.arr≥rm.to))))],lH T s [.box [],.box [.ptr 3 0],.box [],.box [],.box [],.box []]):=fun lv w=>by
    simp only [Nt,lH,gH,hpA,xA,rgE,AG.enc,vv,reduceCtorEq,reduceAdd,reduceEqDiff];by_cases b1:x.to<lv
    ·simp only [b1,vv,reduceCtorEq,reduceAdd,reduceEqDiff]
    ·by_cases b2:T.r.dead<h.arr
     ·simp only [b1,b2,vv,reduceCtorEq,reduceAdd,reduceEqDiff]
     ·by_cases b3:c.to=T.r.dst
      ·simp only [b1,b2,b3,bne_self_eq_false,vv,reduceCtorEq,reduceAdd,reduceEqDiff,ne_eq,not_true_eq_false]
      ·simp only [b1,b2,b3,bne_iff_ne,vv,reduceCtorEq,reduceAdd,reduceEqDiff,ne_eq,not_false_eq_true]
   have hC:HZ n z c.enc (rgE rm) (xA x,hp) (hpA (some h),lH T s [.box [],.box [.ptr 3 0],.box [],.box [],.box []])=
     Nt n (xA x,hp) (fun p183=>Fe n z c.enc (rgE rm) (hpA (some h),lH T s [.box [],.box [.ptr 3 0],.box [],.box [],.box []]) p183) (hpA (some h),lH T s [.box [],.box [.ptr 3 0],.box [],.box [],.box []]) c.enc (rgE rm) ([.t (tI (Ew T.r c h))],lH T s [.box [],.box [.ptr 3 0],.box [],.box [],.box [],.box []]):=by
    simp only [HZ,lH,gH,hpA,Ew,c1,hk,AG.enc,e1,e2,vv,reduceCtorEq,reduceAdd,reduceEqDiff];cases T.r.cust<;>simp only [vv,reduceCtorEq,reduceAdd,reduceEqDiff]
   rw [hC,hB];rfl
  simp only [hA];cases hb:O8 T x c rm h with
  |true=>
   have hm:mvH T x c rm (some h)=none:=by simp only [O8,decide_eq_true_eq] at hb;simp only [mvH,if_pos hb]
   refine Ev.of fun n z => ?_;simp only [Fe,lH,gH,hm,LSt.mvO,vv,reduceCtorEq,reduceAdd,reduceEqDiff]
  |false=>
   have hm:mvH T x c rm (some h)=some (⟨c.to,rm.frm,rm.to,h.arr⟩,h):=by simp only [O8,decide_eq_false_iff_not] at hb;simp only [mvH,if_neg hb]
   rw [hm];simp only [LSt.mvO,LSt.mv];have hD:∀n z (b:Bool),Ha n z c.enc (rgE rm) (hpA (some h),lH T s [.box [],.box [.ptr 3 0],.box [],.box [],.box []]) ([.t (.bool b)],lH T s [.box [],.box [.ptr 3 0],.box [],.box [],.box [],.box [],.box []])=
     z ([],lH T (if b=true then s.push ⟨c.to,rm.frm,rm.to,h.arr⟩ else s) [.box [],.box [.ptr 3 0],.box [],.box []]):=fun n z b=>by
    have t1:take s.opn.length (s.opn.map Lab.enc++s.jk)=s.opn.map Lab.enc:=by rw [List.take_append_of_le_length (by simp)];exact take_of_length_le (by simp)
    have b1:s.opn.length+1≤1073741824:=by omega
    have b2:s.opn.length≤s.opn.length+s.jk.length:=Nat.le_add_right _ _;cases b with
    |false=>simp only [Ha,Qp,lH,gH,vv,reduceCtorEq,reduceAdd,reduceEqDiff]
    |true=>
     simp only [Ha,Qp,lH,gH,vv,reduceCtorEq,reduceAdd,reduceEqDiff,b1,b2,t1,LSt.push,hpA,rgE,AG.enc,map_append,map_cons,map_nil,Lab.enc,append_nil,length_append]
   by_cases hd:c.to=T.r.dst
   ·refine Ev.of fun n z => ?_;have hE:Fe n z c.enc (rgE rm) (hpA (some h),lH T s [.box [],.box [.ptr 3 0],.box [],.box [],.box []]) ([.t (.bool false)],lH T s [.box [],.box [.ptr 3 0],.box [],.box [],.box [],.box []])=
      Ha n z c.enc (rgE rm) (hpA (some h),lH T s [.box [],.box [.ptr 3 0],.box [],.box [],.box []]) ([.t (.bool false)],lH T s [.box [],.box [.ptr 3 0],.box [],.box [],.box [],.box [],.box []]):=by
     simp only [Fe,lH,gH,hpA,AG.enc,hd,bne_self_eq_false,vv,reduceCtorEq,reduceAdd,reduceEqDiff]
    rw [hE,hD];simp only [hd,ne_eq,not_true_eq_false,decide_false,Bool.false_and]
   ·refine (con44 T s hl ⟨c.to,rm.frm,rm.to,h.arr⟩ c rm ⟨rfl,rfl,rfl⟩ [] ([.t (.bool false)],lH T s [.box [],.box [.ptr 3 0],.box [],.box [],.box [],.box []]) (by simp only [lH,gH,vv,reduceCtorEq,reduceAdd,reduceEqDiff]) (by simp only [lH,gH,vv,reduceCtorEq,reduceAdd,reduceEqDiff]) (by simp only [lH,gH,vv,reduceCtorEq,reduceAdd,reduceEqDiff])
     (hpA (some h),lH T s [.box [],.box [.ptr 3 0],.box [],.box [],.box []]) (by simp only [hpA,vv,reduceCtorEq,reduceAdd,reduceEqDiff])).mono fun n hcon z => ?_
    have hE:Fe n z c.enc (rgE rm) (hpA (some h),lH T s [.box [],.box [.ptr 3 0],.box [],.box [],.box []]) ([.t (.bool false)],lH T s [.box [],.box [.ptr 3 0],.box [],.box [],.box [],.box []])=
      Ha n z c.enc (rgE rm) (hpA (some h),lH T s [.box [],.box [.ptr 3 0],.box [],.box [],.box []]) ([.t (.bool (!decide (idx (fun b=>A3 ⟨c.to,rm.frm,rm.to,h.arr⟩ b) s.done≥0)))],lH T s [.box [],.box [.ptr 3 0],.box [],.box [],.box [],.box [],.box []]):=by
     have h2:=hcon fun p192=>Qr n (fun p190=>Qq n (fun p188=>Ha n z c.enc (rgE rm) (hpA (some h),lH T s [.box [],.box [.ptr 3 0],.box [],.box [],.box []]) p188) p190) p192;refine Eq.trans ?_ (h2.trans ?_)
     ·simp only [Fe,lH,gH,hpA,AG.enc,bne_iff_ne.2 hd,vv,reduceCtorEq,reduceAdd,reduceEqDiff];rfl
     ·simp only [Qr,Qq,lH,gH,vv,reduceCtorEq,reduceAdd,reduceEqDiff]
    rw [hE,hD];have hany:=QC (fun b=>A3 ⟨c.to,rm.frm,rm.to,h.arr⟩ b) s.done;have hcnd:(!decide (idx (fun b=>A3 ⟨c.to,rm.frm,rm.to,h.arr⟩ b) s.done≥0))=(decide (c.to≠T.r.dst) && !s.done.any fun y=>A3 ⟨c.to,rm.frm,rm.to,h.arr⟩ y):=by rw [decide_eq_true hd,Bool.true_and];congr 1;rw [Bool.eq_iff_iff,decide_eq_true_eq];exact hany
    rw [hcnd]
end Ab
namespace Ab
open Go
theorem TZ (T:Tb) (x:Lab) (k:Nat) (c:AG) (rm:Span):mv1 T.g x k c rm=mvH T x c rm (IF k c (T.g.dur.getD k 0) (T.g.gaps.getD k []) (if rm.frm>x.time then rm.frm else x.time)):=by unfold mv1 mvH;cases IF k c (T.g.dur.getD k 0) (T.g.gaps.getD k []) (if rm.frm>x.time then rm.frm else x.time)<;>rfl
def LSt.mvR (T:Tb) (x:Lab) (k:Nat) (c:AG) (s:LSt) (rm:Span):LSt:=s.mvO T (mv1 T.g x k c rm)
theorem RA (T:Tb) (s:LSt) (m:Option (Lab×Hop)):(s.mvO T m).done=s.done∧(s.mvO T m).opn.length≤s.opn.length+1:=by
 unfold LSt.mvO;cases m with
 |none=>exact ⟨rfl,le_succ _⟩
 |some m=>
  simp only [LSt.mv];split
  ·exact ⟨rfl,by simp [LSt.push]⟩
  ·exact ⟨rfl,le_succ _⟩
theorem Oa {k:Nat} {c:AG} {n fr:Int} {gs:List Span} {h:Hop} (hm:IF k c n gs fr=some h):h.con=k∧∃a∈gs,fr≤h.beg∧a.frm≤h.beg∧h.beg+n≤a.to∧h.stop=h.beg+n∧h.arr=h.beg+n+c.rng:=by
 unfold IF at hm;cases hb:C3 n fr gs with
 |none=>rw [hb] at hm;cases hm
 |some b=>
  rw [hb] at hm;cases hm;obtain ⟨h1,a,h2,h3,h4⟩:=Gd hb;exact ⟨rfl,a,h2,h1,h3,h4,rfl,rfl⟩
structure CtOk (T:Tb) (k:Nat) (c:AG) (d:Int) (gs:List Span):Prop where
 con:T.cs[k]? = some c
 dur:T.g.dur[k]? = some d
 gap:T.g.gaps[k]? = some gs
 durS:0≤d∧d≤67108864
 rng:0≤c.rng∧c.rng≤1048576
 gapS:∀a∈gs,(0≤a.frm∧a.frm≤1099511627776)∧0≤a.to∧a.to≤1099511627776
 gapL:gs.length≤100000
theorem rm52 (T:Tb) (s0:LSt) (hdl:s0.done.length≤50000) (x:Lab) (hp:Heap) (k:Nat) (c:AG) (d:Int) (gs:List Span) (hk:CtOk T k c d gs) (ht:0≤x.time∧x.time≤1099511627776) (kh:Heap)
  (rs:List Span) (hol:s0.opn.length+rs.length≤10000000) (hrs:∀a∈rs,Sm a.frm) :
  Ev fun n=>∀z,AO (fun p again=>Lc n (spE rs) c.enc (xA x,hp) ([.t (tI k)],kh) z p again) n ([.t (tI (0:Nat))],lH T s0 [.box [],.box [.ptr 3 0],.box [],.box []])
   = z ([],lH T (rs.foldl (LSt.mvR T x k c) s0) [.box [],.box [.ptr 3 0],.box []]):=by
 refine BZ rs (fun i s=>(([.t (tI i)],lH T s [.box [],.box [.ptr 3 0],.box [],.box []]):List AV×Heap)) (fun _ s rm =>.next (s.mvR T x k c rm)) (fun s=>s)
  (fun (z:List AV×Heap→Option (List Tree)) s=>z ([],lH T s [.box [],.box [.ptr 3 0],.box []])) (fun i s=>s.done=s0.done∧s.opn.length≤s0.opn.length+i∧i≤rs.length) s0 rfl ⟨rfl,by omega,zero_le _⟩ (by rw [CJ])
  (fun i s rm ha hI => ?_) (fun i s rm s' ha hI h => ?_) (fun s hI=>Ev.of fun n z again => ?_)
 ·have hi:=AN ha;obtain ⟨i1,i2,i3⟩:=hI;have hg1:T.g.dur.getD k 0=d:=by simp [List.getD,hk.dur]
  have hg2:T.g.gaps.getD k []=gs:=by simp [List.getD,hk.gap]
  have hmv:s.mvR T x k c rm=s.mvO T (mvH T x c rm (IF k c d gs (if rm.frm>x.time then rm.frm else x.time))):=by rw [LSt.mvR,TZ,hg1,hg2]
  have hkl:=AN hk.gap;have hkd:=AN hk.dur;have hS:=hk.durS;have hA:=hop42 T s x hp rm k c hk.con d (by unfold Sm;omega) (by unfold Sm;omega) (hrs rm (mem_of_getElem? ha)) hk.rng kh gs (fun a ha=>by have:=hk.gapS a ha;unfold Sm;omega) hk.gapL;have hB:=mv50 T s (by rw [i1];omega) (by omega) x hp rm k c hk.con hk.rng (IF k c d gs (if rm.frm>x.time then rm.frm else x.time)) (fun h hh=>by obtain ⟨h1,a,h2,h3,h4,h5,h6,h7⟩:=Oa hh;have:=hk.gapS a h2;exact ⟨h1,by unfold Sm;omega⟩)
  refine (hA.and hB).mono fun n hab z again => ?_;obtain ⟨h1,h2⟩:=hab;have a1:=h1 (fun p175=>HZ n (fun p172=>Ns n again ([.t (tI i)],lH T s [.box [],.box [.ptr 3 0],.box [],.box []]) p172) c.enc (rgE rm) (xA x,hp) p175);have a2:=h2 (fun p172=>Ns n again ([.t (tI i)],lH T s [.box [],.box [.ptr 3 0],.box [],.box []]) p172);rw [Rd.Ae,hmv];refine Eq.trans ?_ (a1.trans (a2.trans ?_))
  ·simp only [Lc,lH,gH,spE,rgE,HS,vv,reduceCtorEq,reduceAdd,reduceEqDiff,ha,Span.enc,hk.dur,hk.gap,encI,(show (i:Int)<rs.length by omega),(show (k:Int)<T.g.gaps.length by omega),(show (k:Int)<T.g.dur.length by omega)];rfl
  ·simp only [Ns,lH,gH,vv,reduceCtorEq,reduceAdd,reduceEqDiff,AY (show i<4611686018427387904 by omega)]
 ·have hi:=AN ha;simp only [Rd.next.injEq] at h;subst h;obtain ⟨h1,h2⟩:=RA T s (mv1 T.g x k c rm);exact ⟨h1.trans hI.1,by have:(s.mvR T x k c rm).opn.length≤s.opn.length+1:=h2;omega,by omega⟩
 ·simp only [Lc,lH,gH,spE,vv,reduceCtorEq,reduceAdd,reduceEqDiff,lt_irrefl]
theorem eq41 (n:Nat) (y:List Tree) (p33 p132:List AV×Heap) (ag:List AV×Heap→Option (List Tree)) (p:List AV×Heap) (again:List AV×Heap→Option (List Tree)) :
  Uk n y p33 p132 ag p again=Lc n (spE [⟨0,1099511627776⟩]) y p33 p132 ag p again:=rfl
end Ab
namespace Ab
open Go
def LSt.mvK (T:Tb) (x:Lab) (k:Nat) (s:LSt) (c:AG):LSt:=if c.frm=x.node then (Bn T.g c.to).foldl (LSt.mvR T x k c) s else s
def LSt.mvA (T:Tb) (x:Lab):Nat→List AG→LSt→LSt
 |_,[],s=>s
 |k,c::l,s=>LSt.mvA T x (k+1) l (s.mvK T x k c)
theorem OO (T:Tb) (x:Lab) (k:Nat) (c:AG):∀(rs:List Span) (s:LSt),rs.foldl (LSt.mvR T x k c) s=(rs.filterMap (mv1 T.g x k c)).foldl (LSt.mv T) s
 |[],s=>rfl
 |r::rs,s=>by
  rw [foldl_cons,OO T x k c rs];unfold LSt.mvR;cases h:mv1 T.g x k c r with
  |none=>rw [List.filterMap_cons_none h];rfl
  |some m=>rw [List.filterMap_cons_some h];rfl
theorem OP (T:Tb) (x:Lab):∀(l:List AG) (k:Nat) (s:LSt),LSt.mvA T x k l s=(mvL T.g x k l).foldl (LSt.mv T) s
 |[],k,s=>rfl
 |c::l,k,s=>by
  unfold LSt.mvA mvL;rw [OP T x l,List.foldl_append];congr 1;unfold LSt.mvK mvC;split
  ·exact OO T x k c _ s
  ·rfl
theorem Q9 (T:Tb):∀(ms:List (Lab×Hop)) (s:LSt),(ms.foldl (LSt.mv T) s).done=s.done∧(ms.foldl (LSt.mv T) s).opn=s.opn++(ms.filter fun m=>decide (m.1.node≠T.r.dst) && !s.done.any fun y=>A3 m.1 y).map (·.1)
 |[],s=>by simp
 |m::ms,s=>by
  rw [foldl_cons];obtain ⟨h1,h2⟩:=Q9 T ms (s.mv T m);have hd:(s.mv T m).done=s.done:=by unfold LSt.mv;split<;>rfl
  refine ⟨h1.trans hd,?_⟩;rw [h2,hd];unfold LSt.mv;by_cases hc:(decide (m.1.node≠T.r.dst) && !s.done.any fun y=>A3 m.1 y)=true
  ·rw [if_pos hc,filter_cons,if_pos hc];simp [LSt.push]
  ·rw [if_neg hc,filter_cons,if_neg hc]
structure TOk (T:Tb):Prop where
 ct:∀k c,T.cs[k]? = some c→∃d gs,CtOk T k c d gs
 to:∀c∈T.cs,0≤c.to∧c.to<T.g.Ar.length
 room:∀rs∈T.g.Ar,rs.length≤100∧∀a∈rs,0≤a.frm∧a.frm<a.to∧a.to≤1099511627776
 cl:T.cs.length≤10
 rl:T.g.Ar.length≤6
 dead:0≤T.r.ready∧T.r.ready≤T.r.dead∧T.r.dead≤1099511627776
theorem mvK_len (T:Tb) (hT:TOk T) (x:Lab) (k:Nat) (s:LSt) (c:AG) (hc:c∈T.cs):(s.mvK T x k c).done=s.done∧(s.mvK T x k c).opn.length≤s.opn.length+100:=by
 have hf:∀(rs:List Span) (s:LSt),(rs.foldl (LSt.mvR T x k c) s).done=s.done∧(rs.foldl (LSt.mvR T x k c) s).opn.length≤s.opn.length+rs.length:=fun rs=>by
  induction rs with
  |nil=>intro s;exact ⟨rfl,le_refl _⟩
  |cons r rs ih=>
   intro s;rw [foldl_cons];obtain ⟨h1,h2⟩:=ih (s.mvR T x k c r);obtain ⟨h3,h4⟩:=RA T s (mv1 T.g x k c r);refine ⟨h1.trans h3,?_⟩;have:(s.mvR T x k c r).opn.length≤s.opn.length+1:=h4;simp only [length_cons];omega
 unfold LSt.mvK;split
 ·obtain ⟨h1,h2⟩:=hf (Bn T.g c.to) s;refine ⟨h1,le_trans h2 ?_⟩;have:(Bn T.g c.to).length≤100:=by
   unfold Bn;split
   ·simp
   ·have ht:=hT.to c hc;have hlt:c.to.toNat<T.g.Ar.length:=by omega
    have hr:=hT.room T.g.Ar[c.to.toNat] (getElem_mem hlt);simp only [List.getD,getElem?_eq_getElem hlt,Option.getD_some];exact hr.1
  omega
 ·exact ⟨rfl,by omega⟩
theorem ct54 (T:Tb) (hT:TOk T) (s0:LSt) (hdl:s0.done.length≤50000) (hol:s0.opn.length≤1000000) (x:Lab) (hp:Heap) (ht:0≤x.time∧x.time≤1099511627776) (p123:List AV×Heap) (h123:cL p123 3 1=T.cs.map AG.enc) :
  Ev fun n=>∀z,AO (fun p again=>JH n p123 (xA x,hp) z p again) n ([.t (tI (0:Nat))],lH T s0 [.box [],.box [.ptr 3 0],.box []])
   = z ([],lH T ((BT T.g x).foldl (LSt.mv T) s0) []):=by
 have hrun:∀(l:List AG) (k:Nat) (s:LSt),A9 (fun i s c=>(.next (LSt.mvK T x i s c):Rd LSt LSt)) (fun s=>s) k l s=LSt.mvA T x k l s:=fun l=>by
  induction l with
  |nil=>intro k s;rfl
  |cons c l ih=>intro k s;exact ih (k+1) _
 have hfin:A9 (fun i s c=>(.next (LSt.mvK T x i s c):Rd LSt LSt)) (fun s=>s) 0 T.cs s0=(BT T.g x).foldl (LSt.mv T) s0:=by rw [hrun,OP];rfl
 refine BZ T.cs (fun i s=>(([.t (tI i)],lH T s [.box [],.box [.ptr 3 0],.box []]):List AV×Heap)) (fun i s c =>.next (LSt.mvK T x i s c)) (fun s=>s)
  (fun (z:List AV×Heap→Option (List Tree)) s=>z ([],lH T s [])) (fun i s=>s.done=s0.done∧s.opn.length≤s0.opn.length+100*i∧i≤T.cs.length) s0 rfl ⟨rfl,by omega,zero_le _⟩ hfin
  (fun i s c ha hI => ?_) (fun i s c s' ha hI h => ?_) (fun s hI=>Ev.of fun n z again => ?_)
 ·have hi:=AN ha;obtain ⟨i1,i2,i3⟩:=hI;have hcl:=hT.cl;obtain ⟨d,gs,hk⟩:=hT.ct i c ha;have hto:=hT.to c (mem_of_getElem? ha);simp only [Rd.Ae];have ha':(T.cs.map AG.enc)[i]? = some c.enc:=by rw [getElem?_map,ha];rfl
  by_cases hf:c.frm=x.node
  ·by_cases hd:c.to=T.r.dst
   ·have hrm:Bn T.g c.to=[⟨0,1099511627776⟩]:=by unfold Bn;exact if_pos hd
    have hR:=rm52 T s (by rw [i1];omega) x hp i c d gs hk ht (lH T s [.box [],.box [.ptr 3 0],.box []]) [⟨0,1099511627776⟩] (by simp only [length_cons,length_nil];omega) (fun a ha=>by cases mem_singleton.1 ha;unfold Sm;exact ⟨by decide,by decide⟩);refine hR.mono fun n h z again => ?_;have a1:=h (fun p134=>JJ n again ([.t (tI i)],lH T s [.box [],.box [.ptr 3 0],.box []]) p134);have hs:s.mvK T x i c=[⟨0,1099511627776⟩].foldl (LSt.mvR T x i c) s:=by unfold LSt.mvK;rw [if_pos hf,hrm]
    rw [hs];refine Eq.trans ?_ (a1.trans ?_)
    ·simp only [JH,h123,lH,gH,eq41,vv,reduceCtorEq,reduceAdd,reduceEqDiff,ha,AG.enc,hf,hd,xA,bne_self_eq_false,beq_self_eq_true,(show (i:Int)<T.cs.length by omega)];rfl
    ·simp only [JJ,lH,gH,vv,reduceCtorEq,reduceAdd,reduceEqDiff,AY (show i<4611686018427387904 by omega)]
   ·have hlt:c.to.toNat<T.g.Ar.length:=by omega
    have hg:T.g.Ar[c.to.toNat]? = some T.g.Ar[c.to.toNat]:=getElem?_eq_getElem hlt;have hm:=hT.room _ (mem_of_getElem? hg);have hrm:Bn T.g c.to=T.g.Ar[c.to.toNat]:=by unfold Bn;rw [if_neg (show ¬c.to=T.g.rq.dst from hd)];simp [List.getD,hg]
    generalize T.g.Ar[c.to.toNat]=rs at hg hm hrm;have hR:=rm52 T s (by rw [i1];omega) x hp i c d gs hk ht (lH T s [.box [],.box [.ptr 3 0],.box []]) rs (by omega) (fun a ha=>by have:=hm.2 a ha;unfold Sm;omega);refine hR.mono fun n h z again => ?_;have a1:=h (fun p134=>JJ n again ([.t (tI i)],lH T s [.box [],.box [.ptr 3 0],.box []]) p134);have hs:s.mvK T x i c=rs.foldl (LSt.mvR T x i c) s:=by unfold LSt.mvK;rw [if_pos hf,hrm]
    rw [hs];refine Eq.trans ?_ (a1.trans ?_)
    ·have t1:okL 2 (spE rs) 0=true:=rfl;simp only [JH,h123,lH,gH,vv,reduceCtorEq,reduceAdd,reduceEqDiff,ha,AG.enc,hf,bne_self_eq_false,beq_eq_false_iff_ne.2 hd,xA,hg,t1,hto.1,hto.2,(show (i:Int)<T.cs.length by omega)];rfl
    ·simp only [JJ,lH,gH,vv,reduceCtorEq,reduceAdd,reduceEqDiff,AY (show i<4611686018427387904 by omega)]
  ·refine Ev.of fun n z again => ?_;have hs:s.mvK T x i c=s:=by unfold LSt.mvK;rw [if_neg hf]
   simp only [JH,JJ,lH,gH,h123,hs,vv,reduceCtorEq,reduceAdd,reduceEqDiff,ha,AG.enc,bne_iff_ne.2 hf,xA,AY (show i<4611686018427387904 by omega),(show (i:Int)<T.cs.length by omega)]
 ·have hi:=AN ha;simp only [Rd.next.injEq] at h;subst h;obtain ⟨h1,h2⟩:=mvK_len T hT x i s c (mem_of_getElem? ha);exact ⟨h1.trans hI.1,by omega,by omega⟩
 ·simp only [JH,lH,gH,h123,vv,reduceCtorEq,reduceAdd,reduceEqDiff,lt_irrefl]
end Ab
namespace Ab
open Go
def lHr (T:Tb) (done:List Lab) (vo:Nat) (es:List (List Tree)) (lo:Nat) (suf:Heap):Heap:=
 gH T T.g.gaps T.g.Ar T.g.dur (.box [.ptr 3 0] :: .row false done.length 4 (done.map Lab.enc) :: .box [.sref 5 done.length 0 done.length] :: .row false vo 4 es :: .box [.sref 7 vo 0 lo]::suf)
theorem M0 {l:List Lab} {jk:List (List Tree)} {i:Nat} {y:Lab} (h:l[i]? = some y):(l.map Lab.enc++jk)[i]? = some y.enc:=by rw [getElem?_append_left (by simpa using AN h),getElem?_map,h];rfl
theorem RF:∀(os:List Lab) (i:Nat) (m:Lab),A9 (fun _ m y=>(.next (if I3 y m<0 then y else m):Rd Lab Lab)) (fun m=>m) i os m=C6 m os
 |[],i,m=>rfl
 |y::os,i,m=>RF os (i+1) _
theorem mn4 (T:Tb) (s:LSt) (o:Lab) (os:List Lab) (hs:s.opn=o::os) (hl:s.opn.length≤10000000) (e:List AV) :
  Ev fun n=>∀z,AO (fun p again=>Rf n (e,lH T s []) z p again) n ([.t (tI ((0+1:Nat):Int))],lH T s [HS,.box (xA o)])=z (xA (C6 o os),lH T s []):=by
 refine BZ os (fun i m=>(([.t (tI ((i+1:Nat):Int))],lH T s [HS,.box (xA m)]):List AV×Heap)) (fun _ m y =>.next (if I3 y m<0 then y else m)) (fun m=>m)
  (fun (z:List AV×Heap→Option (List Tree)) m=>z (xA m,lH T s [])) (fun _ _=>True) o rfl trivial (RF os 0 o)
  (fun i m y ha hI => ?_) (fun _ _ _ _ _ _ _=>trivial) (fun m hI=>Ev.of fun n z again => ?_)
 ·have hi:=AN ha;have hg:s.opn[i+1]? = some y:=by rw [hs];simpa using ha
  have hg2:=M0 (jk:=s.jk) hg;have hlt:=AN hg;refine (s88 y m).mono fun n h z again => ?_;simp only [Lab.enc,cons_append,nil_append] at h;simp only [Lab.enc] at hg2;simp only [Rf,J16_3,lH,gH,xA,HS,vv,reduceCtorEq,reduceAdd,reduceEqDiff,hg2,Lab.enc,h,(show ((i+1:Nat):Int)<s.opn.length by omega),AY (show i+1<4611686018427387904 by omega),Rd.Ae];by_cases hc:I3 y m<0
  ·simp only [hc,vv,reduceCtorEq,reduceAdd,reduceEqDiff]
  ·simp only [hc,vv,reduceCtorEq,reduceAdd,reduceEqDiff]
 ·have hlen:s.opn.length=os.length+1:=by rw [hs];rfl
  simp only [Rf,lH,gH,xA,HS,vv,reduceCtorEq,reduceAdd,reduceEqDiff,hlen,lt_irrefl]
theorem ix5 (T:Tb) (s:LSt) (x:Lab) (hl:s.opn.length≤10000000) :
  Ev fun n=>∀z,AO (fun p again=>Re n (xA x,lH T s []) z p again) n ([.t (tI (0:Nat))],lH T s [.box []])=z ([.t (tI (idx (fun y=>A3 x y) s.opn))],lH T s [.box []]):=by
 refine BZ s.opn (fun i _=>(([.t (tI i)],lH T s [.box []]):List AV×Heap)) (fun i _ b=>if A3 x b=true then .done (i:Int) else .next ()) (fun _ => -1)
  (fun (z:List AV×Heap→Option (List Tree)) (o:Int)=>z ([.t (tI o)],lH T s [.box []])) (fun _ _=>True) () rfl trivial (MO _ s.opn)
  (fun i s' a ha hI => ?_) (fun _ _ _ _ _ _ _=>trivial) (fun s' hI=>Ev.of fun n z again => ?_)
 ·have hi:=AN ha;have hg2:=M0 (jk:=s.jk) ha;refine (s91 x a).mono fun n h z again => ?_;simp only [Lab.enc,cons_append,nil_append] at h;simp only [Lab.enc] at hg2;simp only [Re,lH,gH,xA,vv,reduceCtorEq,reduceAdd,reduceEqDiff,hg2,Lab.enc,h,(show (i:Int)<s.opn.length by omega),AY (show i<4611686018427387904 by omega)];cases A3 x a<;>simp [AI,Rd.Ap,Rd.Ae]
 ·simp only [Re,lH,gH,xA,vv,reduceCtorEq,reduceAdd,reduceEqDiff,lt_irrefl]
structure Qo (opn:List Lab) (orig:List (List Tree)) (j:Nat) (s:List Lab×List (List Tree)):Prop where
 len:s.2.length=orig.length
 keep:s.2.take s.1.length=s.1.map Lab.enc
 rest:∀q,j≤q→s.2[q]? = orig[q]?
 le:s.1.length<j
 jle:j≤opn.length
 four:∀e∈s.2,e.length=4
theorem Tf {opn:List Lab} {orig:List (List Tree)} {j:Nat} {s:List Lab×List (List Tree)} (h:Qo opn orig j s) (hlo:opn.length≤orig.length) {y:Lab} (hy:opn[j]? = some y):Qo opn orig (j+1) (s.1++[y],s.2.set s.1.length y.enc) where
 len:=by rw [List.length_set];exact h.len
 keep:=by have h1:=h.len;have h2:=h.le;have h3:=h.jle;simp only [length_append,length_cons,length_nil,map_append,map_cons,map_nil];rw [List.take_succ_eq_append_getElem (by rw [List.length_set];omega),List.take_set_of_le (le_refl _),h.keep,List.getElem_set_self]
 rest:=fun q hq=>by have:=h.le;rw [getElem?_set_ne (by omega)];exact h.rest q (by omega)
 le:=by have:=h.le;simp only [length_append,length_cons,length_nil];omega
 jle:=AN hy
 four:=fun e he=>by
  rcases List.mem_or_eq_of_mem_set he with h1|h1
  ·exact h.four e h1
  ·rw [h1];rfl
theorem SA {opn:List Lab} {orig:List (List Tree)} {j:Nat} {s:List Lab×List (List Tree)} (h:Qo opn orig j s) (hj:j<opn.length):Qo opn orig (j+1) s:=
 ⟨h.len,h.keep,fun q hq=>h.rest q (by omega),by have:=h.le;omega,hj,h.four⟩
def JM:List Tree:=[tI 0,tI 0,tI 0,tI 0]
def IS (T:Tb) (s:LSt) (i0:Nat) (i:Nat) (d:List Lab×List (List Tree)):List AV×Heap:=([.t (tI d.1.length),.t (tI ((i0+1+i:Nat):Int))],lHr T s.done s.vo d.2 s.opn.length [.box []])
def NQ {Q:Type} (x:Lab) (_:Nat) (d:List Lab×List (List Tree)) (y:Lab):Rd (List Lab×List (List Tree)) Q :=.next (if A3 x y=true then d else (d.1++[y],d.2.set d.1.length y.enc))
theorem T4 (T:Tb) (s:LSt) (hl:s.opn.length≤10000000) (x:Lab) (i0 i:Nat) (d:List Lab×List (List Tree)) (y:Lab) (hy:s.opn[i0+1+i]? = some y) (hI:Qo s.opn (s.opn.map Lab.enc++s.jk) (i0+1+i) d) :
  Ev fun n=>∀z again,Lb n (xA x,lH T s []) z (IS T s i0 i d) again=again (IS T s i0 (i+1) (if A3 x y=true then d else (d.1++[y],d.2.set d.1.length y.enc))):=by
 have hlt:=AN hy;have h1:=hI.le;have h2:=hI.jle;have h3:=hI.len;have hg:d.2[i0+1+i]? = some y.enc:=by rw [hI.rest _ (le_refl _)];exact M0 hy
 have hll:d.1.length<d.2.length:=by rw [h3];simp;omega
 have hk:d.2[d.1.length]? = some d.2[d.1.length]:=getElem?_eq_getElem hll;have h4:drop 4 d.2[d.1.length]=[]:=List.drop_eq_nil_of_le (by rw [hI.four _ (getElem_mem hll)];exact le_refl _);generalize d.2[d.1.length]=w at hk h4;have hw:w64 (((i0+1+i:Nat):Int)+1)=((i0+1+(i+1):Nat):Int):=by rw [A6 (by omega) (by omega)];omega
 have hw2:w64 ((d.1.length:Int)+1)=((d.1.length+1:Nat):Int):=by rw [A6 (by omega) (by omega)];omega
 refine (s91 x y).mono fun n h z again => ?_;simp only [Lab.enc,cons_append,nil_append] at h;simp only [Lab.enc] at hg;simp only [Lb,Um,IS,lHr,lH,gH,xA,vv,reduceCtorEq,reduceAdd,reduceEqDiff,hg,hk,h4,Lab.enc,h,(show ((i0+1+i:Nat):Int)<s.opn.length by omega),(show (d.1.length:Int)<s.opn.length by omega),hw,hw2,le_refl,append_nil];cases A3 x y with
 |true=>simp only [vv,reduceCtorEq,reduceAdd,reduceEqDiff]
 |false=>simp only [vv,reduceCtorEq,reduceAdd,reduceEqDiff,hw2,length_append,hk,h4,append_nil,length_cons,length_nil]
end Ab
namespace Ab
open Go
theorem RQ {Q:Type} (x:Lab) (fin:List Lab×List (List Tree)→Q):∀(l:List Lab) (i:Nat) (d:List Lab×List (List Tree)),A9 (NQ x) fin i l d=fin (l.foldl (fun d y=>if A3 x y=true then d else (d.1++[y],d.2.set d.1.length y.enc)) d)
 |[],i,d=>rfl
 |y::l,i,d=>RQ x fin l (i+1) _
def T5 (x:Lab) (opn:List Lab) (jk:List (List Tree)) (i0:Nat):List Lab×List (List Tree):=
 (opn.drop (i0+1)).foldl (fun d y=>if A3 x y=true then d else (d.1++[y],d.2.set d.1.length y.enc)) (opn.take i0,opn.map Lab.enc++jk)
theorem Ow (x:Lab):∀(l:List Lab) (d:List Lab×List (List Tree)),(l.foldl (fun d y=>if A3 x y=true then d else (d.1++[y],d.2.set d.1.length y.enc)) d).1=d.1++l.filter fun y => !A3 x y
 |[],d=>by simp
 |y::l,d=>by rw [foldl_cons,Ow x l,filter_cons];cases A3 x y<;>simp
def LSt.del (s:LSt) (x:Lab) (i0:Nat):LSt:=⟨s.done++[x],s.vo,(T5 x s.opn s.jk i0).1,replicate (s.opn.length-(T5 x s.opn s.jk i0).1.length) JM++(T5 x s.opn s.jk i0).2.drop s.opn.length⟩
def LSt.nxt (T:Tb) (s:LSt) (x:Lab):LSt:=(BT T.g x).foldl (LSt.mv T) (s.del x (idx (fun y=>A3 x y) s.opn).toNat)
structure SOk (s:LSt):Prop where
 four:∀e∈s.jk,e.length=4
 dl:s.done.length≤1000
 ol:s.opn.length≤1000000
theorem enc4 (l:List Lab):∀e∈l.map Lab.enc,e.length=4:=fun e he=>by obtain ⟨y,_,rfl⟩:=mem_map.1 he;rfl
theorem nx56 (T:Tb) (hT:TOk T) (s:LSt) (hs:SOk s) (x:Lab) (hx:0≤x.time∧x.time≤1099511627776) (i0:Nat) (hi0:i0<s.opn.length) :
  Ev fun n=>∀z,Nr n (xA x,lH T s []) z ([.t (tI i0)],lH T s [.box []])=z ([],lH T ((BT T.g x).foldl (LSt.mv T) (s.del x i0)) []):=by
 have hlo:s.opn.length≤(s.opn.map Lab.enc++s.jk).length:=by simp
 have hd0:Qo s.opn (s.opn.map Lab.enc++s.jk) (i0+1+0) (s.opn.take i0,s.opn.map Lab.enc++s.jk):=
  {len:=rfl
   keep:=by simp only [length_take];rw [List.take_append_of_le_length (by simp;omega),map_take];congr 1;omega
   rest:=fun q _=>rfl
   le:=by simp only [length_take];omega
   jle:=hi0
   four:=fun e he=>by
    rcases mem_append.1 he with h|h
    ·exact enc4 _ e h
    ·exact hs.four e h}
 have hol:=hs.ol;have hloop:Ev fun n=>∀z,AO (fun p again=>Lb n (xA x,lH T s []) z p again) n (IS T s i0 0 (s.opn.take i0,s.opn.map Lab.enc++s.jk))=z ([],lH T ((BT T.g x).foldl (LSt.mv T) (s.del x i0)) []):=by
  refine BZ (s.opn.drop (i0+1)) (IS T s i0) (NQ x) (fun d=>(⟨s.done++[x],s.vo,d.1,replicate (s.opn.length-d.1.length) JM++d.2.drop s.opn.length⟩:LSt))
   (fun (z:List AV×Heap→Option (List Tree)) s1=>z ([],lH T ((BT T.g x).foldl (LSt.mv T) s1) [])) (fun i d=>Qo s.opn (s.opn.map Lab.enc++s.jk) (i0+1+i) d) (s.opn.take i0,s.opn.map Lab.enc++s.jk) rfl hd0 (by rw [RQ];rfl)
   (fun i d y ha hI => ?_) (fun i d y s' ha hI h => ?_) (fun d hI => ?_)
  ·rw [getElem?_drop] at ha;exact (T4 T s (by omega) x i0 i d y ha hI).mono fun n h z again=>h z again
  ·rw [getElem?_drop] at ha;unfold NQ at h;simp only [Rd.next.injEq] at h;subst h;cases A3 x y with
   |true=>exact SA hI (AN ha)
   |false=>exact Tf hI hlo ha
  ·have hll:i0+1+(s.opn.drop (i0+1)).length=s.opn.length:=by rw [length_drop];omega
   rw [hll] at hI;have h1:=hI.le;have h3:=hI.len;have hct:=ct54 T hT ⟨s.done++[x],s.vo,d.1,replicate (s.opn.length-d.1.length) JM++d.2.drop s.opn.length⟩ (by have:=hs.dl;simp;omega) (by simp only;omega) x (lH T s []) hx (IS T s i0 (s.opn.drop (i0+1)).length d) (by simp only [IS,lHr,gH,vv,reduceCtorEq,reduceAdd,reduceEqDiff]);refine hct.mono fun n h z again => ?_;have a1:=h z;refine Eq.trans ?_ a1;have hrow:A0 d.2 d.1.length (replicate (s.opn.length-d.1.length) JM)=d.1.map Lab.enc++(replicate (s.opn.length-d.1.length) JM++d.2.drop s.opn.length):=by unfold A0;rw [hI.keep,List.length_replicate,show d.1.length+(s.opn.length-d.1.length)=s.opn.length by omega,append_assoc]
   have hle1:s.done.length+1≤1073741824:=by have:=hs.dl;omega
   have hj:((i0+1+(s.opn.drop (i0+1)).length:Nat):Int)=(s.opn.length:Int):=by rw [hll]
   have hkl:(d.1.length:Int)≤s.opn.length:=by omega
   have hrl:(d.1.length:Int)≤((d.1.map Lab.enc++(replicate (s.opn.length-d.1.length) JM++d.2.drop s.opn.length)).length:Int):=by simp only [length_append,length_map];omega
   have t3:take s.done.length (s.done.map Lab.enc)=s.done.map Lab.enc:=take_of_length_le (by simp);unfold JM at hrow hrl;simp only [Lb,IS,hj,lHr,lH,gH,xA,JM,vv,reduceCtorEq,reduceAdd,reduceEqDiff,lt_irrefl,hkl,hrow,hle1,t3,le_refl,Nat.sub_zero,length_append,map_append,map_cons,map_nil,Lab.enc];rw [Cj (by omega)];rfl
 refine hloop.mono fun n h z => ?_;refine Eq.trans ?_ (h z);have hw:w64 ((i0:Int)+1)=((i0+1+0:Nat):Int):=by rw [A6 (by omega) (by omega)];omega
 have hne:((i0:Int)== -1)=false:=beq_eq_false_iff_ne.2 (by omega);have hl0:(s.opn.take i0).length=i0:=by rw [length_take];omega
 simp only [Nr,IS,lHr,lH,gH,xA,vv,reduceCtorEq,reduceAdd,reduceEqDiff,hw,hne,hl0]
theorem OZ {x:Lab} {l:List Lab} (hx:x∈l):∃i0:Nat,i0<l.length∧idx (fun y=>A3 x y) l=(i0:Int)∧l.take i0++(l.drop (i0+1)).filter (fun y => !A3 x y)=l.filter fun y => !A3 x y:=by
 have hxx:A3 x x=true:=E6.2 rfl;cases h:l.findIdx? (fun y=>A3 x y) with
 |none=>
  rw [List.findIdx?_eq_none_iff] at h;have:=h x hx;rw [hxx] at this;cases this
 |some i0=>
  have hi:idx (fun y=>A3 x y) l=(i0:Int):=by simp [idx,h]
  obtain ⟨h1,h2,h3⟩:=List.findIdx?_eq_some_iff_getElem.1 h;refine ⟨i0,h1,hi,?_⟩
  conv=>rhs;rw [← List.take_append_drop i0 l,filter_append,List.drop_eq_getElem_cons h1,filter_cons]
  rw [if_neg (by simp [h2])];congr 1;rw [filter_eq_self.2];intro y hy;obtain ⟨j,hj,rfl⟩:=mem_iff_getElem.1 hy;have hj':j<i0:=by simp only [length_take] at hj;omega
  have:=h3 j hj';rw [List.getElem_take];simpa using this
theorem mv_jk (T:Tb):∀(ms:List (Lab×Hop)) (s:LSt),(∀e∈s.jk,e.length=4)→∀e∈(ms.foldl (LSt.mv T) s).jk,e.length=4
 |[],s,h=>h
 |m::ms,s,h=>by
  rw [foldl_cons];refine mv_jk T ms _ ?_;unfold LSt.mv;split
  ·intro e he;cases he
  ·exact h
theorem MT (x:Lab):∀(l:List Lab) (d:List Lab×List (List Tree)),(∀e∈d.2,e.length=4)→∀e∈(l.foldl (fun d y=>if A3 x y=true then d else (d.1++[y],d.2.set d.1.length y.enc)) d).2,e.length=4
 |[],d,h=>h
 |y::l,d,h=>by
  rw [foldl_cons];refine MT x l _ ?_;split
  ·exact h
  ·intro e he;rcases List.mem_or_eq_of_mem_set he with h1|h1
   ·exact h e h1
   ·rw [h1];rfl
theorem P0 (T:Tb) (s:LSt) (hs:∀e∈s.jk,e.length=4) (x:Lab) (hx:x∈s.opn):(s.nxt T x).done=s.done++[x]∧(s.nxt T x).opn=s.opn.filter (fun y => !A3 x y)++M6 T.g (s.done++[x]) x∧∀e∈(s.nxt T x).jk,e.length=4:=by
 obtain ⟨i0,h1,h2,h3⟩:=OZ hx;unfold LSt.nxt;rw [h2,toNat_natCast];obtain ⟨m1,m2⟩:=Q9 T (BT T.g x) (s.del x i0);refine ⟨m1,?_,mv_jk T _ _ ?_⟩
 ·rw [m2];congr 1;show (T5 x s.opn s.jk i0).1=_;unfold T5;rw [Ow];exact h3
 ·intro e he;rcases mem_append.1 he with h|h
  ·rw [List.eq_of_mem_replicate h];rfl
  ·refine MT x _ _ ?_ e (mem_of_mem_drop h);intro e he;rcases mem_append.1 he with h|h
   ·exact enc4 _ e h
   ·exact hs e h
theorem nx57 (T:Tb) (hT:TOk T) (s:LSt) (hs:SOk s) (x:Lab) (hm:x∈s.opn) (hx:0≤x.time∧x.time≤1099511627776) :
  Ev fun n=>∀z,Nq n z (xA x,lH T s [])=z ([],lH T (s.nxt T x) []):=by
 obtain ⟨i0,h1,h2,h3⟩:=OZ hm;have hol:=hs.ol;refine ((ix5 T s x (by omega)).and (nx56 T hT s hs x hx i0 h1)).mono fun n ⟨k1,k2⟩ z => ?_;have a1:=k1 (fun p45=>Nr n (xA x,lH T s []) z p45);rw [h2] at a1;have a2:=k2 z;have e1:s.nxt T x=(BT T.g x).foldl (LSt.mv T) (s.del x i0):=by unfold LSt.nxt;rw [h2,toNat_natCast]
 rw [e1];refine Eq.trans ?_ (a1.trans a2);simp only [Nq,lH,gH,xA,vv,reduceCtorEq,reduceAdd,reduceEqDiff];rfl
end Ab
