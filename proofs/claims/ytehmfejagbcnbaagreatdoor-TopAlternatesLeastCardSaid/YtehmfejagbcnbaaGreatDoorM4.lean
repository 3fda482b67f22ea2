/- A part of the proof: see the last text. -/
import Derived.Test.YtehmfejagbcnbaaGreatDoorM3
set_option linter.unusedVariables false
set_option linter.unusedSimpArgs false
open Bool (and_eq_true false_eq_true not_eq_true')
open Classical (not_not)
open Int (le_of_lt lt_irrefl toNat toNat_natCast)
open List (all_eq_true any_cons any_eq_false any_eq_true append_nil cons_append drop drop_zero eq_nil_of_length_eq_zero find?_cons flatten_cons foldl_cons getElem?_drop getElem?_eq_getElem getElem?_eq_none getElem?_map getElem?_take_of_lt getElem_mem length length_append length_cons length_map length_nil map_append map_cons map_drop map_map map_nil map_take mem_append mem_append_left mem_append_right mem_cons mem_cons_of_mem mem_cons_self mem_filter mem_filterMap mem_flatten mem_iff_getElem mem_iff_getElem? mem_map mem_of_getElem? mem_range mem_singleton nil_append nodup_append nodup_cons pairwise_cons replicate singleton_append take take_of_length_le)
open Nat (add_mul add_zero le_refl le_trans lt_or_ge not_lt reduceAdd reduceEqDiff zero_add zero_le)
open Option (getD_none map_none map_some)
set_option maxRecDepth 100000
namespace Ab
open Go Go.Proofs
noncomputable def zh0 (p:List AV×Heap) (r:Heap):Heap :=.row false (AO p 0) 1 (oEs p 0) :: .row false (AO p 1) 1 (oEs p 1) :: .row false (AO p 2) 1 (oEs p 2) :: .box [.t (.sl 1 (cL p 3 0)),.t (.sl 7 (cL p 3 1)),.t (.sl 4 (cL p 3 2)),.t (.sl 5 (cL p 3 3)),.t (tI (cI p 3 4)),.t (tI (cI p 3 5)),.t (tI (cI p 3 6)),.t (tI (cI p 3 7)),.t (tI (cI p 3 8)),.t (tI (cI p 3 9)),.t (.bool (cB p 3 10)),.sref 0 (AL p 3 11) (AP p 3 11) (AM p 3 11),.sref 1 (AL p 3 12) (AP p 3 12) (AM p 3 12),.sref 2 (AL p 3 13) (AP p 3 13) (AM p 3 13)] :: .box [AV.ptr 3 0] :: .box [AV.ptr 3 0] :: .row false (AO p 6) 4 (oEs p 6) :: .box [.sref 6 (AL p 7 0) (AP p 7 0) (AM p 7 0)] :: .row false (AO p 8) 4 (oEs p 8) :: .box [.sref 8 (AL p 9 0) (AP p 9 0) (AM p 9 0)]::r
noncomputable def zh1 (p:List AV×Heap) (r:Heap):Heap :=.row false (AO p 0) 1 (oEs p 0) :: .row false (AO p 1) 1 (oEs p 1) :: .row false (AO p 2) 1 (oEs p 2) :: .box [.t (.sl 1 (cL p 3 0)),.t (.sl 7 (cL p 3 1)),.t (.sl 4 (cL p 3 2)),.t (.sl 5 (cL p 3 3)),.t (tI (cI p 3 4)),.t (tI (cI p 3 5)),.t (tI (cI p 3 6)),.t (tI (cI p 3 7)),.t (tI (cI p 3 8)),.t (tI (cI p 3 9)),.t (.bool (cB p 3 10)),.sref 0 (AL p 3 11) (AP p 3 11) (AM p 3 11),.sref 1 (AL p 3 12) (AP p 3 12) (AM p 3 12),.sref 2 (AL p 3 13) (AP p 3 13) (AM p 3 13)] :: .box [AV.ptr 3 0] :: .box [AV.ptr 3 0] :: .row false (AO p 6) 4 (oEs p 6) :: .box [.sref 6 (AL p 7 0) (AP p 7 0) (AM p 7 0)] :: .row false (AO p 8) 4 (oEs p 8) :: .box [.sref 8 (AL p 9 0) (AP p 9 0) (AM p 9 0)] :: .box [.sref 6 (AL p 10 0) (AP p 10 0) (AM p 10 0)] :: .row false (AO p 11) 4 (oEs p 11) :: .row false (AO p 12) 4 (oEs p 12) :: .box [.t (tI (cI p 13 0)),.t (tI (cI p 13 1)),.t (tI (cI p 13 2)),.t (tI (cI p 13 3))] :: .box [.t (tI (cI p 14 0)),.t (tI (cI p 14 1)),.t (tI (cI p 14 2)),.t (tI (cI p 14 3))] :: .box [.t (.bool (cB p 15 0))] :: .box [.t (tI (cI p 16 0)),.t (tI (cI p 16 1)),.t (tI (cI p 16 2)),.t (tI (cI p 16 3))] :: .box [AV.ptr 3 0] :: .box []::r
noncomputable def zh2 (p:List AV×Heap) (r:Heap):Heap :=.row false (AO p 0) 1 (oEs p 0) :: .row false (AO p 1) 1 (oEs p 1) :: .row false (AO p 2) 1 (oEs p 2) :: .box [.t (.sl 1 (cL p 3 0)),.t (.sl 7 (cL p 3 1)),.t (.sl 4 (cL p 3 2)),.t (.sl 5 (cL p 3 3)),.t (tI (cI p 3 4)),.t (tI (cI p 3 5)),.t (tI (cI p 3 6)),.t (tI (cI p 3 7)),.t (tI (cI p 3 8)),.t (tI (cI p 3 9)),.t (.bool (cB p 3 10)),.sref 0 (AL p 3 11) (AP p 3 11) (AM p 3 11),.sref 1 (AL p 3 12) (AP p 3 12) (AM p 3 12),.sref 2 (AL p 3 13) (AP p 3 13) (AM p 3 13)] :: .box [AV.ptr 3 0] :: .box [AV.ptr 3 0] :: .row false (AO p 6) 4 (oEs p 6) :: .box [.sref 6 (AL p 7 0) (AP p 7 0) (AM p 7 0)] :: .row false (AO p 8) 4 (oEs p 8) :: .box [.sref 8 (AL p 9 0) (AP p 9 0) (AM p 9 0)] :: .box [.sref 6 (AL p 10 0) (AP p 10 0) (AM p 10 0)] :: .box [AV.ptr 3 0] :: .box [.t (tI (cI p 12 0))] :: .box [.t (.bool (cB p 13 0))] :: .box [] :: .box [AV.ptr 3 0] :: .box []::r
noncomputable def zh3 (p:List AV×Heap) (r:Heap):Heap :=.row false (AO p 0) 1 (oEs p 0) :: .row false (AO p 1) 1 (oEs p 1) :: .row false (AO p 2) 1 (oEs p 2) :: .box [.t (.sl 1 (cL p 3 0)),.t (.sl 7 (cL p 3 1)),.t (.sl 4 (cL p 3 2)),.t (.sl 5 (cL p 3 3)),.t (tI (cI p 3 4)),.t (tI (cI p 3 5)),.t (tI (cI p 3 6)),.t (tI (cI p 3 7)),.t (tI (cI p 3 8)),.t (tI (cI p 3 9)),.t (.bool (cB p 3 10)),.sref 0 (AL p 3 11) (AP p 3 11) (AM p 3 11),.sref 1 (AL p 3 12) (AP p 3 12) (AM p 3 12),.sref 2 (AL p 3 13) (AP p 3 13) (AM p 3 13)] :: .box [AV.ptr 3 0] :: .box [AV.ptr 3 0]::r
noncomputable def zh4 (p:List AV×Heap) (r:Heap):Heap :=.row false (AO p 0) 1 (oEs p 0) :: .row false (AO p 1) 1 (oEs p 1) :: .row false (AO p 2) 1 (oEs p 2) :: .box [.t (.sl 1 (cL p 3 0)),.t (.sl 7 (cL p 3 1)),.t (.sl 4 (cL p 3 2)),.t (.sl 5 (cL p 3 3)),.t (tI (cI p 3 4)),.t (tI (cI p 3 5)),.t (tI (cI p 3 6)),.t (tI (cI p 3 7)),.t (tI (cI p 3 8)),.t (tI (cI p 3 9)),.t (.bool (cB p 3 10)),.sref 0 (AL p 3 11) (AP p 3 11) (AM p 3 11),.sref 1 (AL p 3 12) (AP p 3 12) (AM p 3 12),.sref 2 (AL p 3 13) (AP p 3 13) (AM p 3 13)] :: .box [AV.ptr 3 0] :: .box [AV.ptr 3 0] :: .row false (AO p 6) 4 (oEs p 6) :: .box [.sref 6 (AL p 7 0) (AP p 7 0) (AM p 7 0)] :: .row false (AO p 8) 4 (oEs p 8) :: .box [.sref 8 (AL p 9 0) (AP p 9 0) (AM p 9 0)] :: .box [] :: .box [AV.ptr 3 0] :: .box [] :: .box []::r
noncomputable def zh5 (p:List AV×Heap) (r:Heap):Heap :=.row false (AO p 0) 1 (oEs p 0) :: .row false (AO p 1) 1 (oEs p 1) :: .row false (AO p 2) 1 (oEs p 2) :: .box [.t (.sl 1 (cL p 3 0)),.t (.sl 7 (cL p 3 1)),.t (.sl 4 (cL p 3 2)),.t (.sl 5 (cL p 3 3)),.t (tI (cI p 3 4)),.t (tI (cI p 3 5)),.t (tI (cI p 3 6)),.t (tI (cI p 3 7)),.t (tI (cI p 3 8)),.t (tI (cI p 3 9)),.t (.bool (cB p 3 10)),.sref 0 (AL p 3 11) (AP p 3 11) (AM p 3 11),.sref 1 (AL p 3 12) (AP p 3 12) (AM p 3 12),.sref 2 (AL p 3 13) (AP p 3 13) (AM p 3 13)] :: .box [AV.ptr 3 0] :: .box [AV.ptr 3 0] :: .row false (AO p 6) 4 (oEs p 6) :: .box [.sref 6 (AL p 7 0) (AP p 7 0) (AM p 7 0)] :: .row false (AO p 8) 4 (oEs p 8) :: .box [.sref 8 (AL p 9 0) (AP p 9 0) (AM p 9 0)] :: .box [.sref 6 (AL p 10 0) (AP p 10 0) (AM p 10 0)] :: .row false (AO p 11) 4 (oEs p 11) :: .row false (AO p 12) 4 (oEs p 12)::r
noncomputable def zh6 (p:List AV×Heap) (r:Heap):Heap :=.row false (AO p 0) 1 (oEs p 0) :: .row false (AO p 1) 1 (oEs p 1) :: .row false (AO p 2) 1 (oEs p 2) :: .box [.t (.sl 1 (cL p 3 0)),.t (.sl 7 (cL p 3 1)),.t (.sl 4 (cL p 3 2)),.t (.sl 5 (cL p 3 3)),.t (tI (cI p 3 4)),.t (tI (cI p 3 5)),.t (tI (cI p 3 6)),.t (tI (cI p 3 7)),.t (tI (cI p 3 8)),.t (tI (cI p 3 9)),.t (.bool (cB p 3 10)),.sref 0 (AL p 3 11) (AP p 3 11) (AM p 3 11),.sref 1 (AL p 3 12) (AP p 3 12) (AM p 3 12),.sref 2 (AL p 3 13) (AP p 3 13) (AM p 3 13)] :: .box [AV.ptr 3 0] :: .box [AV.ptr 3 0] :: .row false (AO p 6) 4 (oEs p 6) :: .box [.sref 6 (AL p 7 0) (AP p 7 0) (AM p 7 0)] :: .row false (AO p 8) 4 (oEs p 8) :: .box [.sref 8 (AL p 9 0) (AP p 9 0) (AM p 9 0)] :: .box [] :: .box [AV.ptr 3 0] :: .box [] :: .box [] :: .box [] :: .box []::r
noncomputable def zo0 (p:List AV×Heap):AE :=.box [.sref 6 (AL p 10 0) (AP p 10 0) (AM p 10 0)]
noncomputable def zo1 (p:List AV×Heap):AE :=.box [.sref 6 (AL p 7 0) (AP p 7 0) (AM p 7 0)]
noncomputable def PM (n:Nat) (again25:(List AV×Heap)→Option (List Tree)) (p24:List AV×Heap) (p29:List AV×Heap):Option (List Tree):=again25 ([.t (tI (w64 ((vI p24 0)+1)))],(zh0 p29 []))
noncomputable def PL (n:Nat) (again25:(List AV×Heap)→Option (List Tree)) (p24:List AV×Heap) (y26:List Tree) (p27:List AV×Heap):Option (List Tree):=join (fun (p29:List AV×Heap)=>PM n again25 p24 p29) fun (again30:_→Option (List Tree))=>cnd (vB p27 0=true) (cnd (AO p27 8=AL p27 9 0∧(4=4∨4=0)∧(AP p27 9 0)+(AM p27 9 0)≤length (oEs p27 8)∧(AM p27 9 0)+1≤1073741824) (again30 ([],(zh3 p27 [.row false (AO p27 6) 4 (oEs p27 6),zo1 p27,.row false ((AL p27 9 0)+1) 4 ((take (AM p27 9 0) (drop (AP p27 9 0) (oEs p27 8)))++[[tI (cI p27 3 4),tI (gI y26 0),tI (gI y26 1),tI (cI p27 3 7)]]),.box [.sref 8 ((AL p27 9 0)+1) 0 ((AM p27 9 0)+1)],.box []]))) none) (again30 ([],(zh0 p27 [.box []])))
noncomputable def Wg (n:Nat) (again39:(List AV×Heap)→Option (List Tree)) (p38:List AV×Heap) (p42:List AV×Heap):Option (List Tree):=again39 ([.t (tI (w64 ((vI p38 0)+1)))],(zh0 p42 [.box [.t (tI (cI p42 10 0)),.t (tI (cI p42 10 1)),.t (tI (cI p42 10 2)),.t (tI (cI p42 10 3))],.box [.t (tI (cI p42 11 0)),.t (tI (cI p42 11 1)),.t (tI (cI p42 11 2)),.t (tI (cI p42 11 3))]]))
noncomputable def PG (n:Nat) (p31:List AV×Heap) (again34:(List AV×Heap)→Option (List Tree)) (p38:List AV×Heap) (again39:(List AV×Heap)→Option (List Tree)):Option (List Tree):=cnd (AO p38 8=AL p31 9 0) (cnd (decide (vI p38 0<((AM p31 9 0:Nat):Int))=true) (cnd (AO p38 8=AL p31 9 0∧4=4∧(0:Int)≤vI p38 0∧vI p38 0<((AM p31 9 0:Nat):Int)) (cnd (AO p38 8=AL p31 9 0) (Option.bind (oEs p38 8)[(AP p31 9 0)+(toNat (vI p38 0))]? fun y40=>cnd (okI y40 0) (cnd (okI y40 1) (cnd (okI y40 2) (cnd (okI y40 3) (Option.bind (AK C n 88 [tI (gI y40 0),tI (gI y40 1),tI (gI y40 2),tI (gI y40 3),tI (cI p38 11 0),tI (cI p38 11 1),tI (cI p38 11 2),tI (cI p38 11 3)]) fun y41=>cnd (length y41=1) (cnd (okI y41 0) (join (fun (p42:List AV×Heap)=>Wg n again39 p38 p42) fun (again43:_→Option (List Tree))=>cnd (decide (gI y41 0<0)=true) (cnd (AO p38 8=AL p31 9 0∧4=4∧(0:Int)≤vI p38 0∧vI p38 0<((AM p31 9 0:Nat):Int)) (cnd (AO p38 8=AL p31 9 0) (Option.bind (oEs p38 8)[(AP p31 9 0)+(toNat (vI p38 0))]? fun y44=>cnd (okI y44 0) (cnd (okI y44 1) (cnd (okI y44 2) (cnd (okI y44 3) (again43 ([],(zh0 p38 [.box [.t (tI (cI p38 10 0)),.t (tI (cI p38 10 1)),.t (tI (cI p38 10 2)),.t (tI (cI p38 10 3))],.box [.t (tI (gI y44 0)),.t (tI (gI y44 1)),.t (tI (gI y44 2)),.t (tI (gI y44 3))]]))) none) none) none) none) none) none) (again43 ([],(zh0 p38 [.box [.t (tI (cI p38 10 0)),.t (tI (cI p38 10 1)),.t (tI (cI p38 10 2)),.t (tI (cI p38 10 3))],.box [.t (tI (cI p38 11 0)),.t (tI (cI p38 11 1)),.t (tI (cI p38 11 2)),.t (tI (cI p38 11 3))]])))) none) none) none) none) none) none) none) none) (again34 ([.t (tI (cI p38 11 0)),.t (tI (cI p38 11 1)),.t (tI (cI p38 11 2)),.t (tI (cI p38 11 3))],(zh0 p38 [])))) none
noncomputable def PF (n:Nat) (p33:List AV×Heap) (again46:(List AV×Heap)→Option (List Tree)) (p47:List AV×Heap) (again48:(List AV×Heap)→Option (List Tree)):Option (List Tree):=cnd (decide (vI p47 0<((AM p33 9 0:Nat):Int))=true) (cnd (AO p47 8=AL p33 9 0∧4=4∧(0:Int)≤vI p47 0∧vI p47 0<((AM p33 9 0:Nat):Int)) (cnd (AO p47 8=AL p33 9 0) (Option.bind (oEs p47 8)[(AP p33 9 0)+(toNat (vI p47 0))]? fun y49=>cnd (okI y49 0) (cnd (okI y49 1) (cnd (okI y49 2) (cnd (okI y49 3) (Option.bind (AK C n 91 [tI (vI p33 0),tI (vI p33 1),tI (vI p33 2),tI (vI p33 3),tI (gI y49 0),tI (gI y49 1),tI (gI y49 2),tI (gI y49 3)]) fun y52=>cnd (length y52=1) (cnd (okB y52 0) (cnd (gB y52 0=true) (again46 ([.t (tI (vI p47 0))],(zh0 p47 [.box []]))) (again48 ([.t (tI (w64 ((vI p47 0)+1)))],(zh0 p47 [.box []])))) none) none) none) none) none) none) none) none) (again46 ([.t (tI (-1))],(zh0 p47 [.box []])))
noncomputable def L133_6 (n:Nat) (y66:List Tree) (y62:List Tree) (p33:List AV×Heap) (y65:List Tree) (p53:List AV×Heap) (again64:(List AV×Heap)→Option (List Tree)) (p67:List AV×Heap) (again68:(List AV×Heap)→Option (List Tree)):Option (List Tree):=cnd (decide (vI p67 0<((length (gL y66 0):Nat):Int))=true) (cnd (2=2∧(0:Int)≤vI p67 0) (Option.bind (gL y66 0)[toNat (vI p67 0)]? fun y69=>cnd (okI y69 0) (cnd (okI y69 1) (cnd (decide (w64 ((if (if gI y62 0>vI p33 3 then gI y62 0 else vI p33 3)>gI y69 0 then (if gI y62 0>vI p33 3 then gI y62 0 else vI p33 3) else gI y69 0)+(gI y65 0))≤gI y69 1)=true) (cnd (7=7∧(0:Int)≤vI p53 0) (Option.bind (cL p67 3 1)[toNat (vI p53 0)]? fun y70=>cnd (okI y70 5) (again64 ([.t (tI (vI p53 0)),.t (tI (if (if gI y62 0>vI p33 3 then gI y62 0 else vI p33 3)>gI y69 0 then (if gI y62 0>vI p33 3 then gI y62 0 else vI p33 3) else gI y69 0)),.t (tI (w64 ((if (if gI y62 0>vI p33 3 then gI y62 0 else vI p33 3)>gI y69 0 then (if gI y62 0>vI p33 3 then gI y62 0 else vI p33 3) else gI y69 0)+(gI y65 0)))),.t (tI (w64 ((w64 ((if (if gI y62 0>vI p33 3 then gI y62 0 else vI p33 3)>gI y69 0 then (if gI y62 0>vI p33 3 then gI y62 0 else vI p33 3) else gI y69 0)+(gI y65 0)))+(gI y70 5)))),.t (.bool true)],(zh4 p67 [.box []]))) none) none) (again68 ([.t (tI (w64 ((vI p67 0)+1)))],(zh4 p67 [.box [],.box [.t (tI (cI p67 15 0)),.t (tI (cI p67 15 1)),.t (tI (cI p67 15 2)),.t (tI (cI p67 15 3))]])))) none) none) none) (again64 ([.t (tI 0),.t (tI 0),.t (tI 0),.t (tI 0),.t (.bool false)],(zh4 p67 [.box []])))
noncomputable def J133_7 (n:Nat) (p33:List AV×Heap) (again72:(List AV×Heap)→Option (List Tree)) (p63:List AV×Heap) (y57:List Tree) (y62:List Tree) (p73:List AV×Heap):Option (List Tree):=cnd (decide (vI p73 0>vI p33 2)=true) (again72 ([.t (.bool true)],(zh6 p73 []))) (cnd (decide (vI p63 3>cI p73 3 8)=true) (again72 ([.t (.bool true)],(zh6 p73 []))) (cnd (((gI y57 1) != (cI p73 3 5))=true) (again72 ([.t (.bool (decide (vI p63 3≥gI y62 1)))],(zh6 p73 []))) (again72 ([.t (.bool false)],(zh6 p73 [])))))
noncomputable def L133_8 (n:Nat) (p71:List AV×Heap) (y57:List Tree) (y62:List Tree) (p63:List AV×Heap) (again81:(List AV×Heap)→Option (List Tree)) (p82:List AV×Heap) (again83:(List AV×Heap)→Option (List Tree)):Option (List Tree):=cnd (decide (vI p82 0<((AM p71 7 0:Nat):Int))=true) (cnd (AO p82 6=AL p71 7 0∧4=4∧(0:Int)≤vI p82 0∧vI p82 0<((AM p71 7 0:Nat):Int)) (cnd (AO p82 6=AL p71 7 0) (Option.bind (oEs p82 6)[(AP p71 7 0)+(toNat (vI p82 0))]? fun y84=>cnd (okI y84 0) (cnd (okI y84 1) (cnd (okI y84 2) (cnd (okI y84 3) (Option.bind (AK C n 91 [tI (gI y57 1),tI (gI y62 0),tI (gI y62 1),tI (vI p63 3),tI (gI y84 0),tI (gI y84 1),tI (gI y84 2),tI (gI y84 3)]) fun y87=>cnd (length y87=1) (cnd (okB y87 0) (cnd (gB y87 0=true) (again81 ([.t (tI (vI p82 0))],(zh6 p82 [.box []]))) (again83 ([.t (tI (w64 ((vI p82 0)+1)))],(zh6 p82 [.box []])))) none) none) none) none) none) none) none) none) (again81 ([.t (tI (-1))],(zh6 p82 [.box []])))
noncomputable def J133_9 (n:Nat) (again79:(List AV×Heap)→Option (List Tree)) (p80:List AV×Heap):Option (List Tree):=again79 ([.t (.bool (decide (vI p80 0≥(0:Int))))],(zh6 p80 [.box []]))
noncomputable def J133_10 (n:Nat) (again77:(List AV×Heap)→Option (List Tree)) (p78:List AV×Heap):Option (List Tree):=again77 ([.t (.bool (!(vB p78 0)))],(zh6 p78 [.box []]))
noncomputable def J133_11 (n:Nat) (again61:(List AV×Heap)→Option (List Tree)) (p88:List AV×Heap):Option (List Tree):=again61 ([],(zh4 p88 []))
noncomputable def J133_12 (n:Nat) (again61:(List AV×Heap)→Option (List Tree)) (y57:List Tree) (y62:List Tree) (p63:List AV×Heap) (p76:List AV×Heap):Option (List Tree):=join (fun (p88:List AV×Heap)=>J133_11 n again61 p88) fun (again89:_→Option (List Tree))=>cnd (vB p76 0=true) (cnd (AO p76 8=AL p76 9 0∧(4=4∨4=0)∧(AP p76 9 0)+(AM p76 9 0)≤length (oEs p76 8)∧(AM p76 9 0)+1≤1073741824) (again89 ([],(zh3 p76 [.row false (AO p76 6) 4 (oEs p76 6),zo1 p76,.row false ((AL p76 9 0)+1) 4 ((take (AM p76 9 0) (drop (AP p76 9 0) (oEs p76 8)))++[[tI (gI y57 1),tI (gI y62 0),tI (gI y62 1),tI (vI p63 3)]]),.box [.sref 8 ((AL p76 9 0)+1) 0 ((AM p76 9 0)+1)],.box [],.box [AV.ptr 3 0],.box [],.box [],.box [],.box [],.box []]))) none) (again89 ([],(zh6 p76 [.box []])))
noncomputable def J133_13 (n:Nat) (again61:(List AV×Heap)→Option (List Tree)) (y57:List Tree) (y62:List Tree) (p63:List AV×Heap) (p71:List AV×Heap):Option (List Tree):=cnd (vB p71 0=true) (again61 ([],(zh4 p71 []))) (join (fun (p76:List AV×Heap)=>J133_12 n again61 y57 y62 p63 p76) fun (again77:_→Option (List Tree))=>cnd (((gI y57 1) != (cI p71 3 5))=true) (join (fun (p78:List AV×Heap)=>J133_10 n again77 p78) fun (again79:_→Option (List Tree))=>join (fun (p80:List AV×Heap)=>J133_9 n again79 p80) fun (again81:_→Option (List Tree))=>cnd (AO p71 6=AL p71 7 0) (AI (fun (p82:List AV×Heap) (again83:_→Option (List Tree))=>L133_8 n p71 y57 y62 p63 again81 p82 again83) n ([.t (tI 0)],(zh6 p71 [.box []]))) none) (again77 ([.t (.bool false)],(zh6 p71 [.box []]))))
noncomputable def J133_14 (n:Nat) (again61:(List AV×Heap)→Option (List Tree)) (y57:List Tree) (y62:List Tree) (p33:List AV×Heap) (p63:List AV×Heap):Option (List Tree):=join (fun (p71:List AV×Heap)=>J133_13 n again61 y57 y62 p63 p71) fun (again72:_→Option (List Tree))=>cnd ((!(vB p63 4))=true) (again72 ([.t (.bool true)],(zh6 p63 []))) (join (fun (p73:List AV×Heap)=>J133_7 n p33 again72 p63 y57 y62 p73) fun (again74:_→Option (List Tree))=>cnd (cB p63 3 10=true) (cnd (7=7∧(0:Int)≤vI p63 0) (Option.bind (cL p63 3 1)[toNat (vI p63 0)]? fun y75=>cnd (okI y75 5) (again74 ([.t (tI (w64 ((vI p63 2)+(w64 ((2:Int)*(gI y75 5))))))],(zh6 p63 []))) none) none) (again74 ([.t (tI (vI p63 2))],(zh6 p63 []))))
noncomputable def J133_15 (n:Nat) (again59:(List AV×Heap)→Option (List Tree)) (p58:List AV×Heap) (p60:List AV×Heap):Option (List Tree):=again59 ([.t (tI (w64 ((vI p58 0)+1)))],(zh4 p60 []))
noncomputable def L133_16 (n:Nat) (y57:List Tree) (p33:List AV×Heap) (p53:List AV×Heap) (again56:(List AV×Heap)→Option (List Tree)) (p58:List AV×Heap) (again59:(List AV×Heap)→Option (List Tree)):Option (List Tree):=cnd (decide (vI p58 0<1)=true) (join (fun (p60:List AV×Heap)=>J133_15 n again59 p58 p60) fun (again61:_→Option (List Tree))=>cnd (2=2∧(0:Int)≤vI p58 0) (Option.bind [[tI 0,tI 1099511627776]][toNat (vI p58 0)]? fun y62=>cnd (okI y62 0) (cnd (okI y62 1) (join (fun (p63:List AV×Heap)=>J133_14 n again61 y57 y62 p33 p63) fun (again64:_→Option (List Tree))=>cnd (AO p58 2=AL p58 3 13∧1=1∧(0:Int)≤vI p53 0∧vI p53 0<((AM p58 3 13:Nat):Int)) (cnd (AO p58 2=AL p58 3 13) (Option.bind (oEs p58 2)[(AP p58 3 13)+(toNat (vI p53 0))]? fun y65=>cnd (okI y65 0) (cnd (AO p58 0=AL p58 3 11∧1=1∧(0:Int)≤vI p53 0∧vI p53 0<((AM p58 3 11:Nat):Int)) (cnd (AO p58 0=AL p58 3 11) (Option.bind (oEs p58 0)[(AP p58 3 11)+(toNat (vI p53 0))]? fun y66=>cnd (okL 2 y66 0) (AI (fun (p67:List AV×Heap) (again68:_→Option (List Tree))=>L133_6 n y66 y62 p33 y65 p53 again64 p67 again68) n ([.t (tI 0)],(zh4 p58 [.box [],.box [.t (tI 0),.t (tI 0),.t (tI 0),.t (tI 0)]]))) none) none) none) none) none) none) none) none) none) (again56 ([],(zh0 p58 [.box [],.box [AV.ptr 3 0],.box []])))
noncomputable def L133_17 (n:Nat) (y99:List Tree) (y95:List Tree) (p33:List AV×Heap) (y98:List Tree) (p53:List AV×Heap) (again97:(List AV×Heap)→Option (List Tree)) (p100:List AV×Heap) (again101:(List AV×Heap)→Option (List Tree)):Option (List Tree):=cnd (decide (vI p100 0<((length (gL y99 0):Nat):Int))=true) (cnd (2=2∧(0:Int)≤vI p100 0) (Option.bind (gL y99 0)[toNat (vI p100 0)]? fun y102=>cnd (okI y102 0) (cnd (okI y102 1) (cnd (decide (w64 ((if (if gI y95 0>vI p33 3 then gI y95 0 else vI p33 3)>gI y102 0 then (if gI y95 0>vI p33 3 then gI y95 0 else vI p33 3) else gI y102 0)+(gI y98 0))≤gI y102 1)=true) (cnd (7=7∧(0:Int)≤vI p53 0) (Option.bind (cL p100 3 1)[toNat (vI p53 0)]? fun y103=>cnd (okI y103 5) (again97 ([.t (tI (vI p53 0)),.t (tI (if (if gI y95 0>vI p33 3 then gI y95 0 else vI p33 3)>gI y102 0 then (if gI y95 0>vI p33 3 then gI y95 0 else vI p33 3) else gI y102 0)),.t (tI (w64 ((if (if gI y95 0>vI p33 3 then gI y95 0 else vI p33 3)>gI y102 0 then (if gI y95 0>vI p33 3 then gI y95 0 else vI p33 3) else gI y102 0)+(gI y98 0)))),.t (tI (w64 ((w64 ((if (if gI y95 0>vI p33 3 then gI y95 0 else vI p33 3)>gI y102 0 then (if gI y95 0>vI p33 3 then gI y95 0 else vI p33 3) else gI y102 0)+(gI y98 0)))+(gI y103 5)))),.t (.bool true)],(zh4 p100 [.box []]))) none) none) (again101 ([.t (tI (w64 ((vI p100 0)+1)))],(zh4 p100 [.box [],.box [.t (tI (cI p100 15 0)),.t (tI (cI p100 15 1)),.t (tI (cI p100 15 2)),.t (tI (cI p100 15 3))]])))) none) none) none) (again97 ([.t (tI 0),.t (tI 0),.t (tI 0),.t (tI 0),.t (.bool false)],(zh4 p100 [.box []])))
noncomputable def J133_18 (n:Nat) (p33:List AV×Heap) (again105:(List AV×Heap)→Option (List Tree)) (p96:List AV×Heap) (y57:List Tree) (y95:List Tree) (p106:List AV×Heap):Option (List Tree):=cnd (decide (vI p106 0>vI p33 2)=true) (again105 ([.t (.bool true)],(zh6 p106 []))) (cnd (decide (vI p96 3>cI p106 3 8)=true) (again105 ([.t (.bool true)],(zh6 p106 []))) (cnd (((gI y57 1) != (cI p106 3 5))=true) (again105 ([.t (.bool (decide (vI p96 3≥gI y95 1)))],(zh6 p106 []))) (again105 ([.t (.bool false)],(zh6 p106 [])))))
noncomputable def L133_19 (n:Nat) (p104:List AV×Heap) (y57:List Tree) (y95:List Tree) (p96:List AV×Heap) (again114:(List AV×Heap)→Option (List Tree)) (p115:List AV×Heap) (again116:(List AV×Heap)→Option (List Tree)):Option (List Tree):=cnd (decide (vI p115 0<((AM p104 7 0:Nat):Int))=true) (cnd (AO p115 6=AL p104 7 0∧4=4∧(0:Int)≤vI p115 0∧vI p115 0<((AM p104 7 0:Nat):Int)) (cnd (AO p115 6=AL p104 7 0) (Option.bind (oEs p115 6)[(AP p104 7 0)+(toNat (vI p115 0))]? fun y117=>cnd (okI y117 0) (cnd (okI y117 1) (cnd (okI y117 2) (cnd (okI y117 3) (Option.bind (AK C n 91 [tI (gI y57 1),tI (gI y95 0),tI (gI y95 1),tI (vI p96 3),tI (gI y117 0),tI (gI y117 1),tI (gI y117 2),tI (gI y117 3)]) fun y120=>cnd (length y120=1) (cnd (okB y120 0) (cnd (gB y120 0=true) (again114 ([.t (tI (vI p115 0))],(zh6 p115 [.box []]))) (again116 ([.t (tI (w64 ((vI p115 0)+1)))],(zh6 p115 [.box []])))) none) none) none) none) none) none) none) none) (again114 ([.t (tI (-1))],(zh6 p115 [.box []])))
noncomputable def J133_20 (n:Nat) (again112:(List AV×Heap)→Option (List Tree)) (p113:List AV×Heap):Option (List Tree):=again112 ([.t (.bool (decide (vI p113 0≥(0:Int))))],(zh6 p113 [.box []]))
noncomputable def J133_21 (n:Nat) (again110:(List AV×Heap)→Option (List Tree)) (p111:List AV×Heap):Option (List Tree):=again110 ([.t (.bool (!(vB p111 0)))],(zh6 p111 [.box []]))
noncomputable def J133_22 (n:Nat) (again94:(List AV×Heap)→Option (List Tree)) (p121:List AV×Heap):Option (List Tree):=again94 ([],(zh4 p121 []))
noncomputable def J133_23 (n:Nat) (again94:(List AV×Heap)→Option (List Tree)) (y57:List Tree) (y95:List Tree) (p96:List AV×Heap) (p109:List AV×Heap):Option (List Tree):=join (fun (p121:List AV×Heap)=>J133_22 n again94 p121) fun (again122:_→Option (List Tree))=>cnd (vB p109 0=true) (cnd (AO p109 8=AL p109 9 0∧(4=4∨4=0)∧(AP p109 9 0)+(AM p109 9 0)≤length (oEs p109 8)∧(AM p109 9 0)+1≤1073741824) (again122 ([],(zh3 p109 [.row false (AO p109 6) 4 (oEs p109 6),zo1 p109,.row false ((AL p109 9 0)+1) 4 ((take (AM p109 9 0) (drop (AP p109 9 0) (oEs p109 8)))++[[tI (gI y57 1),tI (gI y95 0),tI (gI y95 1),tI (vI p96 3)]]),.box [.sref 8 ((AL p109 9 0)+1) 0 ((AM p109 9 0)+1)],.box [],.box [AV.ptr 3 0],.box [],.box [],.box [],.box [],.box []]))) none) (again122 ([],(zh6 p109 [.box []])))
noncomputable def J133_24 (n:Nat) (again94:(List AV×Heap)→Option (List Tree)) (y57:List Tree) (y95:List Tree) (p96:List AV×Heap) (p104:List AV×Heap):Option (List Tree):=cnd (vB p104 0=true) (again94 ([],(zh4 p104 []))) (join (fun (p109:List AV×Heap)=>J133_23 n again94 y57 y95 p96 p109) fun (again110:_→Option (List Tree))=>cnd (((gI y57 1) != (cI p104 3 5))=true) (join (fun (p111:List AV×Heap)=>J133_21 n again110 p111) fun (again112:_→Option (List Tree))=>join (fun (p113:List AV×Heap)=>J133_20 n again112 p113) fun (again114:_→Option (List Tree))=>cnd (AO p104 6=AL p104 7 0) (AI (fun (p115:List AV×Heap) (again116:_→Option (List Tree))=>L133_19 n p104 y57 y95 p96 again114 p115 again116) n ([.t (tI 0)],(zh6 p104 [.box []]))) none) (again110 ([.t (.bool false)],(zh6 p104 [.box []]))))
noncomputable def J133_25 (n:Nat) (again94:(List AV×Heap)→Option (List Tree)) (y57:List Tree) (y95:List Tree) (p33:List AV×Heap) (p96:List AV×Heap):Option (List Tree):=join (fun (p104:List AV×Heap)=>J133_24 n again94 y57 y95 p96 p104) fun (again105:_→Option (List Tree))=>cnd ((!(vB p96 4))=true) (again105 ([.t (.bool true)],(zh6 p96 []))) (join (fun (p106:List AV×Heap)=>J133_18 n p33 again105 p96 y57 y95 p106) fun (again107:_→Option (List Tree))=>cnd (cB p96 3 10=true) (cnd (7=7∧(0:Int)≤vI p96 0) (Option.bind (cL p96 3 1)[toNat (vI p96 0)]? fun y108=>cnd (okI y108 5) (again107 ([.t (tI (w64 ((vI p96 2)+(w64 ((2:Int)*(gI y108 5))))))],(zh6 p96 []))) none) none) (again107 ([.t (tI (vI p96 2))],(zh6 p96 []))))
noncomputable def J133_26 (n:Nat) (again92:(List AV×Heap)→Option (List Tree)) (p91:List AV×Heap) (p93:List AV×Heap):Option (List Tree):=again92 ([.t (tI (w64 ((vI p91 0)+1)))],(zh4 p93 []))
noncomputable def L133_27 (n:Nat) (y90:List Tree) (y57:List Tree) (p33:List AV×Heap) (p53:List AV×Heap) (again56:(List AV×Heap)→Option (List Tree)) (p91:List AV×Heap) (again92:(List AV×Heap)→Option (List Tree)):Option (List Tree):=cnd (decide (vI p91 0<((length (gL y90 0):Nat):Int))=true) (join (fun (p93:List AV×Heap)=>J133_26 n again92 p91 p93) fun (again94:_→Option (List Tree))=>cnd (2=2∧(0:Int)≤vI p91 0) (Option.bind (gL y90 0)[toNat (vI p91 0)]? fun y95=>cnd (okI y95 0) (cnd (okI y95 1) (join (fun (p96:List AV×Heap)=>J133_25 n again94 y57 y95 p33 p96) fun (again97:_→Option (List Tree))=>cnd (AO p91 2=AL p91 3 13∧1=1∧(0:Int)≤vI p53 0∧vI p53 0<((AM p91 3 13:Nat):Int)) (cnd (AO p91 2=AL p91 3 13) (Option.bind (oEs p91 2)[(AP p91 3 13)+(toNat (vI p53 0))]? fun y98=>cnd (okI y98 0) (cnd (AO p91 0=AL p91 3 11∧1=1∧(0:Int)≤vI p53 0∧vI p53 0<((AM p91 3 11:Nat):Int)) (cnd (AO p91 0=AL p91 3 11) (Option.bind (oEs p91 0)[(AP p91 3 11)+(toNat (vI p53 0))]? fun y99=>cnd (okL 2 y99 0) (AI (fun (p100:List AV×Heap) (again101:_→Option (List Tree))=>L133_17 n y99 y95 p33 y98 p53 again97 p100 again101) n ([.t (tI 0)],(zh4 p91 [.box [],.box [.t (tI 0),.t (tI 0),.t (tI 0),.t (tI 0)]]))) none) none) none) none) none) none) none) none) none) (again56 ([],(zh0 p91 [.box [],.box [AV.ptr 3 0],.box []])))
noncomputable def J133_28 (n:Nat) (again54:(List AV×Heap)→Option (List Tree)) (p53:List AV×Heap) (p55:List AV×Heap):Option (List Tree):=again54 ([.t (tI (w64 ((vI p53 0)+1)))],(zh0 p55 [.box [],.box [AV.ptr 3 0],.box []]))
noncomputable def L133_29 (n:Nat) (p45:List AV×Heap) (p33:List AV×Heap) (again32:(List AV×Heap)→Option (List Tree)) (p53:List AV×Heap) (again54:(List AV×Heap)→Option (List Tree)):Option (List Tree):=cnd (decide (vI p53 0<((length (cL p45 3 1):Nat):Int))=true) (join (fun (p55:List AV×Heap)=>J133_28 n again54 p53 p55) fun (again56:_→Option (List Tree))=>cnd (7=7∧(0:Int)≤vI p53 0) (Option.bind (cL p45 3 1)[toNat (vI p53 0)]? fun y57=>cnd (okI y57 0) (cnd (okI y57 1) (cnd (okI y57 2) (cnd (okI y57 3) (cnd (okI y57 4) (cnd (okI y57 5) (cnd (okI y57 6) (cnd (((gI y57 0) != (vI p33 0))=true) (again56 ([],(zh0 p53 [.box [],.box [AV.ptr 3 0],.box []]))) (cnd (((gI y57 1)==(cI p53 3 5))=true) (AI (fun (p58:List AV×Heap) (again59:_→Option (List Tree))=>L133_16 n y57 p33 p53 again56 p58 again59) n ([.t (tI 0)],(zh4 p53 []))) (cnd (AO p53 1=AL p53 3 12∧1=1∧(0:Int)≤gI y57 1∧gI y57 1<((AM p53 3 12:Nat):Int)) (cnd (AO p53 1=AL p53 3 12) (Option.bind (oEs p53 1)[(AP p53 3 12)+(toNat (gI y57 1))]? fun y90=>cnd (okL 2 y90 0) (AI (fun (p91:List AV×Heap) (again92:_→Option (List Tree))=>L133_27 n y90 y57 p33 p53 again56 p91 again92) n ([.t (tI 0)],(zh4 p53 []))) none) none) none))) none) none) none) none) none) none) none) none) (again32 ([],(zh0 p53 [])))
noncomputable def TW (n:Nat) (again124:(List AV×Heap)→Option (List Tree)) (p123:List AV×Heap) (p129:List AV×Heap):Option (List Tree):=again124 ([.t (tI (vI p129 0)),.t (tI (w64 ((vI p123 1)+1)))],(zh0 p129 [.box []]))
noncomputable def L133_31 (n:Nat) (y145:List Tree) (y141:List Tree) (p33:List AV×Heap) (y144:List Tree) (p132:List AV×Heap) (again143:(List AV×Heap)→Option (List Tree)) (p146:List AV×Heap) (again147:(List AV×Heap)→Option (List Tree)):Option (List Tree):=cnd (decide (vI p146 0<((length (gL y145 0):Nat):Int))=true) (cnd (2=2∧(0:Int)≤vI p146 0) (Option.bind (gL y145 0)[toNat (vI p146 0)]? fun y148=>cnd (okI y148 0) (cnd (okI y148 1) (cnd (decide (w64 ((if (if gI y141 0>vI p33 3 then gI y141 0 else vI p33 3)>gI y148 0 then (if gI y141 0>vI p33 3 then gI y141 0 else vI p33 3) else gI y148 0)+(gI y144 0))≤gI y148 1)=true) (cnd (7=7∧(0:Int)≤vI p132 0) (Option.bind (cL p146 3 1)[toNat (vI p132 0)]? fun y149=>cnd (okI y149 5) (again143 ([.t (tI (vI p132 0)),.t (tI (if (if gI y141 0>vI p33 3 then gI y141 0 else vI p33 3)>gI y148 0 then (if gI y141 0>vI p33 3 then gI y141 0 else vI p33 3) else gI y148 0)),.t (tI (w64 ((if (if gI y141 0>vI p33 3 then gI y141 0 else vI p33 3)>gI y148 0 then (if gI y141 0>vI p33 3 then gI y141 0 else vI p33 3) else gI y148 0)+(gI y144 0)))),.t (tI (w64 ((w64 ((if (if gI y141 0>vI p33 3 then gI y141 0 else vI p33 3)>gI y148 0 then (if gI y141 0>vI p33 3 then gI y141 0 else vI p33 3) else gI y148 0)+(gI y144 0)))+(gI y149 5)))),.t (.bool true)],(zh4 p146 [.box []]))) none) none) (again147 ([.t (tI (w64 ((vI p146 0)+1)))],(zh4 p146 [.box [],.box [.t (tI (cI p146 15 0)),.t (tI (cI p146 15 1)),.t (tI (cI p146 15 2)),.t (tI (cI p146 15 3))]])))) none) none) none) (again143 ([.t (tI 0),.t (tI 0),.t (tI 0),.t (tI 0),.t (.bool false)],(zh4 p146 [.box []])))
noncomputable def J133_32 (n:Nat) (p33:List AV×Heap) (again151:(List AV×Heap)→Option (List Tree)) (p142:List AV×Heap) (y136:List Tree) (y141:List Tree) (p152:List AV×Heap):Option (List Tree):=cnd (decide (vI p152 0>vI p33 2)=true) (again151 ([.t (.bool true)],(zh6 p152 []))) (cnd (decide (vI p142 3>cI p152 3 8)=true) (again151 ([.t (.bool true)],(zh6 p152 []))) (cnd (((gI y136 1) != (cI p152 3 5))=true) (again151 ([.t (.bool (decide (vI p142 3≥gI y141 1)))],(zh6 p152 []))) (again151 ([.t (.bool false)],(zh6 p152 [])))))
noncomputable def L133_33 (n:Nat) (p150:List AV×Heap) (y136:List Tree) (y141:List Tree) (p142:List AV×Heap) (again160:(List AV×Heap)→Option (List Tree)) (p161:List AV×Heap) (again162:(List AV×Heap)→Option (List Tree)):Option (List Tree):=cnd (decide (vI p161 0<((AM p150 7 0:Nat):Int))=true) (cnd (AO p161 6=AL p150 7 0∧4=4∧(0:Int)≤vI p161 0∧vI p161 0<((AM p150 7 0:Nat):Int)) (cnd (AO p161 6=AL p150 7 0) (Option.bind (oEs p161 6)[(AP p150 7 0)+(toNat (vI p161 0))]? fun y163=>cnd (okI y163 0) (cnd (okI y163 1) (cnd (okI y163 2) (cnd (okI y163 3) (Option.bind (AK C n 91 [tI (gI y136 1),tI (gI y141 0),tI (gI y141 1),tI (vI p142 3),tI (gI y163 0),tI (gI y163 1),tI (gI y163 2),tI (gI y163 3)]) fun y166=>cnd (length y166=1) (cnd (okB y166 0) (cnd (gB y166 0=true) (again160 ([.t (tI (vI p161 0))],(zh6 p161 [.box []]))) (again162 ([.t (tI (w64 ((vI p161 0)+1)))],(zh6 p161 [.box []])))) none) none) none) none) none) none) none) none) (again160 ([.t (tI (-1))],(zh6 p161 [.box []])))
noncomputable def J133_34 (n:Nat) (again158:(List AV×Heap)→Option (List Tree)) (p159:List AV×Heap):Option (List Tree):=again158 ([.t (.bool (decide (vI p159 0≥(0:Int))))],(zh6 p159 [.box []]))
noncomputable def J133_35 (n:Nat) (again156:(List AV×Heap)→Option (List Tree)) (p157:List AV×Heap):Option (List Tree):=again156 ([.t (.bool (!(vB p157 0)))],(zh6 p157 [.box []]))
noncomputable def J133_36 (n:Nat) (again140:(List AV×Heap)→Option (List Tree)) (p167:List AV×Heap):Option (List Tree):=again140 ([],(zh4 p167 []))
noncomputable def J133_37 (n:Nat) (again140:(List AV×Heap)→Option (List Tree)) (y136:List Tree) (y141:List Tree) (p142:List AV×Heap) (p155:List AV×Heap):Option (List Tree):=join (fun (p167:List AV×Heap)=>J133_36 n again140 p167) fun (again168:_→Option (List Tree))=>cnd (vB p155 0=true) (cnd (AO p155 8=AL p155 9 0∧(4=4∨4=0)∧(AP p155 9 0)+(AM p155 9 0)≤length (oEs p155 8)∧(AM p155 9 0)+1≤1073741824) (again168 ([],(zh3 p155 [.row false (AO p155 6) 4 (oEs p155 6),zo1 p155,.row false ((AL p155 9 0)+1) 4 ((take (AM p155 9 0) (drop (AP p155 9 0) (oEs p155 8)))++[[tI (gI y136 1),tI (gI y141 0),tI (gI y141 1),tI (vI p142 3)]]),.box [.sref 8 ((AL p155 9 0)+1) 0 ((AM p155 9 0)+1)],.box [],.box [AV.ptr 3 0],.box [],.box [],.box [],.box [],.box []]))) none) (again168 ([],(zh6 p155 [.box []])))
noncomputable def J133_38 (n:Nat) (again140:(List AV×Heap)→Option (List Tree)) (y136:List Tree) (y141:List Tree) (p142:List AV×Heap) (p150:List AV×Heap):Option (List Tree):=cnd (vB p150 0=true) (again140 ([],(zh4 p150 []))) (join (fun (p155:List AV×Heap)=>J133_37 n again140 y136 y141 p142 p155) fun (again156:_→Option (List Tree))=>cnd (((gI y136 1) != (cI p150 3 5))=true) (join (fun (p157:List AV×Heap)=>J133_35 n again156 p157) fun (again158:_→Option (List Tree))=>join (fun (p159:List AV×Heap)=>J133_34 n again158 p159) fun (again160:_→Option (List Tree))=>cnd (AO p150 6=AL p150 7 0) (AI (fun (p161:List AV×Heap) (again162:_→Option (List Tree))=>L133_33 n p150 y136 y141 p142 again160 p161 again162) n ([.t (tI 0)],(zh6 p150 [.box []]))) none) (again156 ([.t (.bool false)],(zh6 p150 [.box []]))))
noncomputable def J133_39 (n:Nat) (again140:(List AV×Heap)→Option (List Tree)) (y136:List Tree) (y141:List Tree) (p33:List AV×Heap) (p142:List AV×Heap):Option (List Tree):=join (fun (p150:List AV×Heap)=>J133_38 n again140 y136 y141 p142 p150) fun (again151:_→Option (List Tree))=>cnd ((!(vB p142 4))=true) (again151 ([.t (.bool true)],(zh6 p142 []))) (join (fun (p152:List AV×Heap)=>J133_32 n p33 again151 p142 y136 y141 p152) fun (again153:_→Option (List Tree))=>cnd (cB p142 3 10=true) (cnd (7=7∧(0:Int)≤vI p142 0) (Option.bind (cL p142 3 1)[toNat (vI p142 0)]? fun y154=>cnd (okI y154 5) (again153 ([.t (tI (w64 ((vI p142 2)+(w64 ((2:Int)*(gI y154 5))))))],(zh6 p142 []))) none) none) (again153 ([.t (tI (vI p142 2))],(zh6 p142 []))))
noncomputable def J133_40 (n:Nat) (again138:(List AV×Heap)→Option (List Tree)) (p137:List AV×Heap) (p139:List AV×Heap):Option (List Tree):=again138 ([.t (tI (w64 ((vI p137 0)+1)))],(zh4 p139 []))
noncomputable def TV (n:Nat) (y136:List Tree) (p33:List AV×Heap) (p132:List AV×Heap) (again135:(List AV×Heap)→Option (List Tree)) (p137:List AV×Heap) (again138:(List AV×Heap)→Option (List Tree)):Option (List Tree):=cnd (decide (vI p137 0<1)=true) (join (fun (p139:List AV×Heap)=>J133_40 n again138 p137 p139) fun (again140:_→Option (List Tree))=>cnd (2=2∧(0:Int)≤vI p137 0) (Option.bind [[tI 0,tI 1099511627776]][toNat (vI p137 0)]? fun y141=>cnd (okI y141 0) (cnd (okI y141 1) (join (fun (p142:List AV×Heap)=>J133_39 n again140 y136 y141 p33 p142) fun (again143:_→Option (List Tree))=>cnd (AO p137 2=AL p137 3 13∧1=1∧(0:Int)≤vI p132 0∧vI p132 0<((AM p137 3 13:Nat):Int)) (cnd (AO p137 2=AL p137 3 13) (Option.bind (oEs p137 2)[(AP p137 3 13)+(toNat (vI p132 0))]? fun y144=>cnd (okI y144 0) (cnd (AO p137 0=AL p137 3 11∧1=1∧(0:Int)≤vI p132 0∧vI p132 0<((AM p137 3 11:Nat):Int)) (cnd (AO p137 0=AL p137 3 11) (Option.bind (oEs p137 0)[(AP p137 3 11)+(toNat (vI p132 0))]? fun y145=>cnd (okL 2 y145 0) (AI (fun (p146:List AV×Heap) (again147:_→Option (List Tree))=>L133_31 n y145 y141 p33 y144 p132 again143 p146 again147) n ([.t (tI 0)],(zh4 p137 [.box [],.box [.t (tI 0),.t (tI 0),.t (tI 0),.t (tI 0)]]))) none) none) none) none) none) none) none) none) none) (again135 ([],(zh0 p137 [.box [],.box [AV.ptr 3 0],.box []])))
noncomputable def Kw (n:Nat) (y178:List Tree) (y174:List Tree) (p33:List AV×Heap) (y177:List Tree) (p132:List AV×Heap) (again176:(List AV×Heap)→Option (List Tree)) (p179:List AV×Heap) (again180:(List AV×Heap)→Option (List Tree)):Option (List Tree):=cnd (decide (vI p179 0<((length (gL y178 0):Nat):Int))=true) (cnd (2=2∧(0:Int)≤vI p179 0) (Option.bind (gL y178 0)[toNat (vI p179 0)]? fun y181=>cnd (okI y181 0) (cnd (okI y181 1) (cnd (decide (w64 ((if (if gI y174 0>vI p33 3 then gI y174 0 else vI p33 3)>gI y181 0 then (if gI y174 0>vI p33 3 then gI y174 0 else vI p33 3) else gI y181 0)+(gI y177 0))≤gI y181 1)=true) (cnd (7=7∧(0:Int)≤vI p132 0) (Option.bind (cL p179 3 1)[toNat (vI p132 0)]? fun y182=>cnd (okI y182 5) (again176 ([.t (tI (vI p132 0)),.t (tI (if (if gI y174 0>vI p33 3 then gI y174 0 else vI p33 3)>gI y181 0 then (if gI y174 0>vI p33 3 then gI y174 0 else vI p33 3) else gI y181 0)),.t (tI (w64 ((if (if gI y174 0>vI p33 3 then gI y174 0 else vI p33 3)>gI y181 0 then (if gI y174 0>vI p33 3 then gI y174 0 else vI p33 3) else gI y181 0)+(gI y177 0)))),.t (tI (w64 ((w64 ((if (if gI y174 0>vI p33 3 then gI y174 0 else vI p33 3)>gI y181 0 then (if gI y174 0>vI p33 3 then gI y174 0 else vI p33 3) else gI y181 0)+(gI y177 0)))+(gI y182 5)))),.t (.bool true)],(zh4 p179 [.box []]))) none) none) (again180 ([.t (tI (w64 ((vI p179 0)+1)))],(zh4 p179 [.box [],.box [.t (tI (cI p179 15 0)),.t (tI (cI p179 15 1)),.t (tI (cI p179 15 2)),.t (tI (cI p179 15 3))]])))) none) none) none) (again176 ([.t (tI 0),.t (tI 0),.t (tI 0),.t (tI 0),.t (.bool false)],(zh4 p179 [.box []])))
noncomputable def K8 (n:Nat) (p33:List AV×Heap) (again184:(List AV×Heap)→Option (List Tree)) (p175:List AV×Heap) (y136:List Tree) (y174:List Tree) (p185:List AV×Heap):Option (List Tree):=cnd (decide (vI p185 0>vI p33 2)=true) (again184 ([.t (.bool true)],(zh6 p185 []))) (cnd (decide (vI p175 3>cI p185 3 8)=true) (again184 ([.t (.bool true)],(zh6 p185 []))) (cnd (((gI y136 1) != (cI p185 3 5))=true) (again184 ([.t (.bool (decide (vI p175 3≥gI y174 1)))],(zh6 p185 []))) (again184 ([.t (.bool false)],(zh6 p185 [])))))
noncomputable def Kv (n:Nat) (p183:List AV×Heap) (y136:List Tree) (y174:List Tree) (p175:List AV×Heap) (again193:(List AV×Heap)→Option (List Tree)) (p194:List AV×Heap) (again195:(List AV×Heap)→Option (List Tree)):Option (List Tree):=cnd (decide (vI p194 0<((AM p183 7 0:Nat):Int))=true) (cnd (AO p194 6=AL p183 7 0∧4=4∧(0:Int)≤vI p194 0∧vI p194 0<((AM p183 7 0:Nat):Int)) (cnd (AO p194 6=AL p183 7 0) (Option.bind (oEs p194 6)[(AP p183 7 0)+(toNat (vI p194 0))]? fun y196=>cnd (okI y196 0) (cnd (okI y196 1) (cnd (okI y196 2) (cnd (okI y196 3) (Option.bind (AK C n 91 [tI (gI y136 1),tI (gI y174 0),tI (gI y174 1),tI (vI p175 3),tI (gI y196 0),tI (gI y196 1),tI (gI y196 2),tI (gI y196 3)]) fun y199=>cnd (length y199=1) (cnd (okB y199 0) (cnd (gB y199 0=true) (again193 ([.t (tI (vI p194 0))],(zh6 p194 [.box []]))) (again195 ([.t (tI (w64 ((vI p194 0)+1)))],(zh6 p194 [.box []])))) none) none) none) none) none) none) none) none) (again193 ([.t (tI (-1))],(zh6 p194 [.box []])))
noncomputable def PK (n:Nat) (again191:(List AV×Heap)→Option (List Tree)) (p192:List AV×Heap):Option (List Tree):=again191 ([.t (.bool (decide (vI p192 0≥(0:Int))))],(zh6 p192 [.box []]))
noncomputable def PJ (n:Nat) (again189:(List AV×Heap)→Option (List Tree)) (p190:List AV×Heap):Option (List Tree):=again189 ([.t (.bool (!(vB p190 0)))],(zh6 p190 [.box []]))
noncomputable def PI (n:Nat) (again173:(List AV×Heap)→Option (List Tree)) (p200:List AV×Heap):Option (List Tree):=again173 ([],(zh4 p200 []))
noncomputable def GL (n:Nat) (again173:(List AV×Heap)→Option (List Tree)) (y136:List Tree) (y174:List Tree) (p175:List AV×Heap) (p188:List AV×Heap):Option (List Tree):=join (fun (p200:List AV×Heap)=>PI n again173 p200) fun (again201:_→Option (List Tree))=>cnd (vB p188 0=true) (cnd (AO p188 8=AL p188 9 0∧(4=4∨4=0)∧(AP p188 9 0)+(AM p188 9 0)≤length (oEs p188 8)∧(AM p188 9 0)+1≤1073741824) (again201 ([],(zh3 p188 [.row false (AO p188 6) 4 (oEs p188 6),zo1 p188,.row false ((AL p188 9 0)+1) 4 ((take (AM p188 9 0) (drop (AP p188 9 0) (oEs p188 8)))++[[tI (gI y136 1),tI (gI y174 0),tI (gI y174 1),tI (vI p175 3)]]),.box [.sref 8 ((AL p188 9 0)+1) 0 ((AM p188 9 0)+1)],.box [],.box [AV.ptr 3 0],.box [],.box [],.box [],.box [],.box []]))) none) (again201 ([],(zh6 p188 [.box []])))
noncomputable def Eh (n:Nat) (again173:(List AV×Heap)→Option (List Tree)) (y136:List Tree) (y174:List Tree) (p175:List AV×Heap) (p183:List AV×Heap):Option (List Tree):=cnd (vB p183 0=true) (again173 ([],(zh4 p183 []))) (join (fun (p188:List AV×Heap)=>GL n again173 y136 y174 p175 p188) fun (again189:_→Option (List Tree))=>cnd (((gI y136 1) != (cI p183 3 5))=true) (join (fun (p190:List AV×Heap)=>PJ n again189 p190) fun (again191:_→Option (List Tree))=>join (fun (p192:List AV×Heap)=>PK n again191 p192) fun (again193:_→Option (List Tree))=>cnd (AO p183 6=AL p183 7 0) (AI (fun (p194:List AV×Heap) (again195:_→Option (List Tree))=>Kv n p183 y136 y174 p175 again193 p194 again195) n ([.t (tI 0)],(zh6 p183 [.box []]))) none) (again189 ([.t (.bool false)],(zh6 p183 [.box []]))))
noncomputable def GK (n:Nat) (again173:(List AV×Heap)→Option (List Tree)) (y136:List Tree) (y174:List Tree) (p33:List AV×Heap) (p175:List AV×Heap):Option (List Tree):=join (fun (p183:List AV×Heap)=>Eh n again173 y136 y174 p175 p183) fun (again184:_→Option (List Tree))=>cnd ((!(vB p175 4))=true) (again184 ([.t (.bool true)],(zh6 p175 []))) (join (fun (p185:List AV×Heap)=>K8 n p33 again184 p175 y136 y174 p185) fun (again186:_→Option (List Tree))=>cnd (cB p175 3 10=true) (cnd (7=7∧(0:Int)≤vI p175 0) (Option.bind (cL p175 3 1)[toNat (vI p175 0)]? fun y187=>cnd (okI y187 5) (again186 ([.t (tI (w64 ((vI p175 2)+(w64 ((2:Int)*(gI y187 5))))))],(zh6 p175 []))) none) none) (again186 ([.t (tI (vI p175 2))],(zh6 p175 []))))
noncomputable def K7 (n:Nat) (again171:(List AV×Heap)→Option (List Tree)) (p170:List AV×Heap) (p172:List AV×Heap):Option (List Tree):=again171 ([.t (tI (w64 ((vI p170 0)+1)))],(zh4 p172 []))
noncomputable def JX (n:Nat) (y169:List Tree) (y136:List Tree) (p33:List AV×Heap) (p132:List AV×Heap) (again135:(List AV×Heap)→Option (List Tree)) (p170:List AV×Heap) (again171:(List AV×Heap)→Option (List Tree)):Option (List Tree):=cnd (decide (vI p170 0<((length (gL y169 0):Nat):Int))=true) (join (fun (p172:List AV×Heap)=>K7 n again171 p170 p172) fun (again173:_→Option (List Tree))=>cnd (2=2∧(0:Int)≤vI p170 0) (Option.bind (gL y169 0)[toNat (vI p170 0)]? fun y174=>cnd (okI y174 0) (cnd (okI y174 1) (join (fun (p175:List AV×Heap)=>GK n again173 y136 y174 p33 p175) fun (again176:_→Option (List Tree))=>cnd (AO p170 2=AL p170 3 13∧1=1∧(0:Int)≤vI p132 0∧vI p132 0<((AM p170 3 13:Nat):Int)) (cnd (AO p170 2=AL p170 3 13) (Option.bind (oEs p170 2)[(AP p170 3 13)+(toNat (vI p132 0))]? fun y177=>cnd (okI y177 0) (cnd (AO p170 0=AL p170 3 11∧1=1∧(0:Int)≤vI p132 0∧vI p132 0<((AM p170 3 11:Nat):Int)) (cnd (AO p170 0=AL p170 3 11) (Option.bind (oEs p170 0)[(AP p170 3 11)+(toNat (vI p132 0))]? fun y178=>cnd (okL 2 y178 0) (AI (fun (p179:List AV×Heap) (again180:_→Option (List Tree))=>Kw n y178 y174 p33 y177 p132 again176 p179 again180) n ([.t (tI 0)],(zh4 p170 [.box [],.box [.t (tI 0),.t (tI 0),.t (tI 0),.t (tI 0)]]))) none) none) none) none) none) none) none) none) none) (again135 ([],(zh0 p170 [.box [],.box [AV.ptr 3 0],.box []])))
noncomputable def Hl (n:Nat) (again133:(List AV×Heap)→Option (List Tree)) (p132:List AV×Heap) (p134:List AV×Heap):Option (List Tree):=again133 ([.t (tI (w64 ((vI p132 0)+1)))],(zh0 p134 [.box [],.box [AV.ptr 3 0],.box []]))
noncomputable def Hj (n:Nat) (p123:List AV×Heap) (p33:List AV×Heap) (again32:(List AV×Heap)→Option (List Tree)) (p132:List AV×Heap) (again133:(List AV×Heap)→Option (List Tree)):Option (List Tree):=cnd (decide (vI p132 0<((length (cL p123 3 1):Nat):Int))=true) (join (fun (p134:List AV×Heap)=>Hl n again133 p132 p134) fun (again135:_→Option (List Tree))=>cnd (7=7∧(0:Int)≤vI p132 0) (Option.bind (cL p123 3 1)[toNat (vI p132 0)]? fun y136=>cnd (okI y136 0) (cnd (okI y136 1) (cnd (okI y136 2) (cnd (okI y136 3) (cnd (okI y136 4) (cnd (okI y136 5) (cnd (okI y136 6) (cnd (((gI y136 0) != (vI p33 0))=true) (again135 ([],(zh0 p132 [.box [],.box [AV.ptr 3 0],.box []]))) (cnd (((gI y136 1)==(cI p132 3 5))=true) (AI (fun (p137:List AV×Heap) (again138:_→Option (List Tree))=>TV n y136 p33 p132 again135 p137 again138) n ([.t (tI 0)],(zh4 p132 []))) (cnd (AO p132 1=AL p132 3 12∧1=1∧(0:Int)≤gI y136 1∧gI y136 1<((AM p132 3 12:Nat):Int)) (cnd (AO p132 1=AL p132 3 12) (Option.bind (oEs p132 1)[(AP p132 3 12)+(toNat (gI y136 1))]? fun y169=>cnd (okL 2 y169 0) (AI (fun (p170:List AV×Heap) (again171:_→Option (List Tree))=>JX n y169 y136 p33 p132 again135 p170 again171) n ([.t (tI 0)],(zh4 p132 []))) none) none) none))) none) none) none) none) none) none) none) none) (again32 ([],(zh0 p132 [])))
noncomputable def JW (n:Nat) (p33:List AV×Heap) (again32:(List AV×Heap)→Option (List Tree)) (p123:List AV×Heap) (again124:(List AV×Heap)→Option (List Tree)):Option (List Tree):=cnd (AO p123 8=AL p33 9 0) (cnd (decide (vI p123 1<((AM p33 9 0:Nat):Int))=true) (cnd (AO p123 8=AL p33 9 0∧4=4∧(0:Int)≤vI p123 1∧vI p123 1<((AM p33 9 0:Nat):Int)) (cnd (AO p123 8=AL p33 9 0) (Option.bind (oEs p123 8)[(AP p33 9 0)+(toNat (vI p123 1))]? fun y125=>cnd (okI y125 0) (cnd (okI y125 1) (cnd (okI y125 2) (cnd (okI y125 3) (Option.bind (AK C n 91 [tI (vI p33 0),tI (vI p33 1),tI (vI p33 2),tI (vI p33 3),tI (gI y125 0),tI (gI y125 1),tI (gI y125 2),tI (gI y125 3)]) fun y128=>cnd (length y128=1) (cnd (okB y128 0) (join (fun (p129:List AV×Heap)=>TW n again124 p123 p129) fun (again130:_→Option (List Tree))=>cnd ((!(gB y128 0))=true) (cnd (AO p123 8=AL p33 9 0∧4=4∧(0:Int)≤vI p123 0∧vI p123 0<((AM p33 9 0:Nat):Int)) (cnd (AO p123 8=AL p33 9 0∧4≤4) (Option.bind (oEs p123 8)[(AP p33 9 0)+(toNat (vI p123 0))]? fun y131=>again130 ([.t (tI (w64 ((vI p123 0)+1)))],(zh3 p123 [.row false (AO p123 6) 4 (oEs p123 6),zo1 p123,.row false (AL p33 9 0) 4 (List.set (oEs p123 8) ((AP p33 9 0)+(toNat (vI p123 0))) ([tI (gI y125 0),tI (gI y125 1),tI (gI y125 2),tI (gI y125 3)]++drop 4 y131)),.box [.sref 8 (AL p123 9 0) (AP p123 9 0) (AM p123 9 0)],.box [],.box [.t (tI (gI y125 0)),.t (tI (gI y125 1)),.t (tI (gI y125 2)),.t (tI (gI y125 3))]]))) none) none) (again130 ([.t (tI (vI p123 0))],(zh0 p123 [.box [],.box [.t (tI (gI y125 0)),.t (tI (gI y125 1)),.t (tI (gI y125 2)),.t (tI (gI y125 3))]])))) none) none) none) none) none) none) none) none) (cnd (AO p123 8=AL p33 9 0∧(4=4∨4=0)) (cnd ((0:Int)≤vI p123 0∧vI p123 0≤((AM p33 9 0:Nat):Int)) (cnd (AO p123 8=AL p33 9 0∧4=4) (cnd (AL p33 9 0=AL p33 9 0∧(4=4∨4=0)) (cnd ((0:Int)≤vI p123 0∧vI p123 0≤(((length (A3 (oEs p123 8) ((AP p33 9 0)+(toNat (vI p123 0))) (replicate ((AM p33 9 0)-(toNat (vI p123 0))) [tI 0,tI 0,tI 0,tI 0])))-(AP p33 9 0):Nat):Int)) (cnd (AO p123 6=AL p123 7 0∧(4=4∨4=0)∧(AP p123 7 0)+(AM p123 7 0)≤length (oEs p123 6)∧(AM p123 7 0)+1≤1073741824) (AI (fun (p132:List AV×Heap) (again133:_→Option (List Tree))=>Hj n p123 p33 again32 p132 again133) n ([.t (tI 0)],(zh3 p123 [.row false ((AL p123 7 0)+1) 4 ((take (AM p123 7 0) (drop (AP p123 7 0) (oEs p123 6)))++[[tI (vI p33 0),tI (vI p33 1),tI (vI p33 2),tI (vI p33 3)]]),.box [.sref 6 ((AL p123 7 0)+1) 0 ((AM p123 7 0)+1)],.row false (AL p33 9 0) 4 (A3 (oEs p123 8) ((AP p33 9 0)+(toNat (vI p123 0))) (replicate ((AM p33 9 0)-(toNat (vI p123 0))) [tI 0,tI 0,tI 0,tI 0])),.box [.sref 8 (AL p33 9 0) (AP p33 9 0) (toNat (vI p123 0))],.box [],.box [AV.ptr 3 0],.box []]))) none) none) none) none) none) none)) none
noncomputable def K6 (n:Nat) (p33:List AV×Heap) (again32:(List AV×Heap)→Option (List Tree)) (p45:List AV×Heap):Option (List Tree):=cnd (((vI p45 0)==(-1))=true) (cnd (AO p45 6=AL p45 7 0∧(4=4∨4=0)∧(AP p45 7 0)+(AM p45 7 0)≤length (oEs p45 6)∧(AM p45 7 0)+1≤1073741824) (AI (fun (p53:List AV×Heap) (again54:_→Option (List Tree))=>L133_29 n p45 p33 again32 p53 again54) n ([.t (tI 0)],(zh3 p45 [.row false ((AL p45 7 0)+1) 4 ((take (AM p45 7 0) (drop (AP p45 7 0) (oEs p45 6)))++[[tI (vI p33 0),tI (vI p33 1),tI (vI p33 2),tI (vI p33 3)]]),.box [.sref 6 ((AL p45 7 0)+1) 0 ((AM p45 7 0)+1)],.row false (AO p45 8) 4 (oEs p45 8),.box [.sref 8 (AL p33 9 0) (AP p33 9 0) (AM p33 9 0)],.box [],.box [AV.ptr 3 0],.box []]))) none) (AI (fun (p123:List AV×Heap) (again124:_→Option (List Tree))=>JW n p33 again32 p123 again124) n ([.t (tI (vI p45 0)),.t (tI (w64 ((vI p45 0)+1)))],(zh0 p45 [.box []])))
noncomputable def K5 (n:Nat) (again32:(List AV×Heap)→Option (List Tree)) (p33:List AV×Heap):Option (List Tree):=join (fun (p45:List AV×Heap)=>K6 n p33 again32 p45) fun (again46:_→Option (List Tree))=>cnd (AO p33 8=AL p33 9 0) (AI (fun (p47:List AV×Heap) (again48:_→Option (List Tree))=>PF n p33 again46 p47 again48) n ([.t (tI 0)],(zh0 p33 [.box []]))) none
noncomputable def L133_58 (n:Nat) (y220:List Tree) (y216:List Tree) (y206:List Tree) (y219:List Tree) (p207:List AV×Heap) (again218:(List AV×Heap)→Option (List Tree)) (p221:List AV×Heap) (again222:(List AV×Heap)→Option (List Tree)):Option (List Tree):=cnd (decide (vI p221 0<((length (gL y220 0):Nat):Int))=true) (cnd (2=2∧(0:Int)≤vI p221 0) (Option.bind (gL y220 0)[toNat (vI p221 0)]? fun y223=>cnd (okI y223 0) (cnd (okI y223 1) (cnd (decide (w64 ((if (if gI y216 0>gI y206 3 then gI y216 0 else gI y206 3)>gI y223 0 then (if gI y216 0>gI y206 3 then gI y216 0 else gI y206 3) else gI y223 0)+(gI y219 0))≤gI y223 1)=true) (cnd (7=7∧(0:Int)≤vI p207 0) (Option.bind (cL p221 3 1)[toNat (vI p207 0)]? fun y224=>cnd (okI y224 5) (again218 ([.t (tI (vI p207 0)),.t (tI (if (if gI y216 0>gI y206 3 then gI y216 0 else gI y206 3)>gI y223 0 then (if gI y216 0>gI y206 3 then gI y216 0 else gI y206 3) else gI y223 0)),.t (tI (w64 ((if (if gI y216 0>gI y206 3 then gI y216 0 else gI y206 3)>gI y223 0 then (if gI y216 0>gI y206 3 then gI y216 0 else gI y206 3) else gI y223 0)+(gI y219 0)))),.t (tI (w64 ((w64 ((if (if gI y216 0>gI y206 3 then gI y216 0 else gI y206 3)>gI y223 0 then (if gI y216 0>gI y206 3 then gI y216 0 else gI y206 3) else gI y223 0)+(gI y219 0)))+(gI y224 5)))),.t (.bool true)],(zh2 p221 [.box [],.box []]))) none) none) (again222 ([.t (tI (w64 ((vI p221 0)+1)))],(zh2 p221 [.box [],.box [],.box [.t (tI (cI p221 19 0)),.t (tI (cI p221 19 1)),.t (tI (cI p221 19 2)),.t (tI (cI p221 19 3))]])))) none) none) none) (again218 ([.t (tI 0),.t (tI 0),.t (tI 0),.t (tI 0),.t (.bool false)],(zh2 p221 [.box [],.box []])))
noncomputable def J133_59 (n:Nat) (y206:List Tree) (again226:(List AV×Heap)→Option (List Tree)) (p217:List AV×Heap) (y211:List Tree) (y216:List Tree) (p227:List AV×Heap):Option (List Tree):=cnd (decide (vI p227 0>gI y206 2)=true) (again226 ([.t (.bool true)],(zh2 p227 [.box [],.box [],.box []]))) (cnd (decide (vI p217 3>cI p227 3 8)=true) (again226 ([.t (.bool true)],(zh2 p227 [.box [],.box [],.box []]))) (cnd (((gI y211 1) != (cI p227 3 5))=true) (again226 ([.t (.bool (decide (vI p217 3≥gI y216 1)))],(zh2 p227 [.box [],.box [],.box []]))) (again226 ([.t (.bool false)],(zh2 p227 [.box [],.box [],.box []])))))
noncomputable def J133_60 (n:Nat) (again215:(List AV×Heap)→Option (List Tree)) (p232:List AV×Heap):Option (List Tree):=again215 ([],(zh2 p232 [.box []]))
noncomputable def J133_61 (n:Nat) (again215:(List AV×Heap)→Option (List Tree)) (p217:List AV×Heap) (p230:List AV×Heap):Option (List Tree):=join (fun (p232:List AV×Heap)=>J133_60 n again215 p232) fun (again233:_→Option (List Tree))=>cnd (vB p230 0=true) (again233 ([],(zh0 p230 [zo0 p230,.box [AV.ptr 3 0],.box [.t (tI (vI p217 3))],.box [.t (.bool true)],.box [],.box [AV.ptr 3 0],.box [],.box [],.box [],.box [],.box []]))) (again233 ([],(zh2 p230 [.box [],.box [],.box [],.box []])))
noncomputable def J133_62 (n:Nat) (again215:(List AV×Heap)→Option (List Tree)) (p217:List AV×Heap) (y211:List Tree) (p225:List AV×Heap):Option (List Tree):=cnd (vB p225 0=true) (again215 ([],(zh2 p225 [.box []]))) (join (fun (p230:List AV×Heap)=>J133_61 n again215 p217 p230) fun (again231:_→Option (List Tree))=>cnd (((gI y211 1)==(cI p225 3 5))=true) (cnd ((!(cB p225 13 0))=true) (again231 ([.t (.bool true)],(zh2 p225 [.box [],.box [],.box [],.box []]))) (again231 ([.t (.bool (decide (vI p217 3<cI p225 12 0)))],(zh2 p225 [.box [],.box [],.box [],.box []])))) (again231 ([.t (.bool false)],(zh2 p225 [.box [],.box [],.box [],.box []]))))
noncomputable def J133_63 (n:Nat) (again215:(List AV×Heap)→Option (List Tree)) (y211:List Tree) (y206:List Tree) (y216:List Tree) (p217:List AV×Heap):Option (List Tree):=join (fun (p225:List AV×Heap)=>J133_62 n again215 p217 y211 p225) fun (again226:_→Option (List Tree))=>cnd ((!(vB p217 4))=true) (again226 ([.t (.bool true)],(zh2 p217 [.box [],.box [],.box []]))) (join (fun (p227:List AV×Heap)=>J133_59 n y206 again226 p217 y211 y216 p227) fun (again228:_→Option (List Tree))=>cnd (cB p217 3 10=true) (cnd (7=7∧(0:Int)≤vI p217 0) (Option.bind (cL p217 3 1)[toNat (vI p217 0)]? fun y229=>cnd (okI y229 5) (again228 ([.t (tI (w64 ((vI p217 2)+(w64 ((2:Int)*(gI y229 5))))))],(zh2 p217 [.box [],.box [],.box []]))) none) none) (again228 ([.t (tI (vI p217 2))],(zh2 p217 [.box [],.box [],.box []]))))
noncomputable def J133_64 (n:Nat) (again213:(List AV×Heap)→Option (List Tree)) (p212:List AV×Heap) (p214:List AV×Heap):Option (List Tree):=again213 ([.t (tI (w64 ((vI p212 0)+1)))],(zh2 p214 [.box []]))
noncomputable def TU (n:Nat) (y211:List Tree) (y206:List Tree) (p207:List AV×Heap) (again210:(List AV×Heap)→Option (List Tree)) (p212:List AV×Heap) (again213:(List AV×Heap)→Option (List Tree)):Option (List Tree):=cnd (decide (vI p212 0<1)=true) (join (fun (p214:List AV×Heap)=>J133_64 n again213 p212 p214) fun (again215:_→Option (List Tree))=>cnd (2=2∧(0:Int)≤vI p212 0) (Option.bind [[tI 0,tI 1099511627776]][toNat (vI p212 0)]? fun y216=>cnd (okI y216 0) (cnd (okI y216 1) (join (fun (p217:List AV×Heap)=>J133_63 n again215 y211 y206 y216 p217) fun (again218:_→Option (List Tree))=>cnd (AO p212 2=AL p212 3 13∧1=1∧(0:Int)≤vI p207 0∧vI p207 0<((AM p212 3 13:Nat):Int)) (cnd (AO p212 2=AL p212 3 13) (Option.bind (oEs p212 2)[(AP p212 3 13)+(toNat (vI p207 0))]? fun y219=>cnd (okI y219 0) (cnd (AO p212 0=AL p212 3 11∧1=1∧(0:Int)≤vI p207 0∧vI p207 0<((AM p212 3 11:Nat):Int)) (cnd (AO p212 0=AL p212 3 11) (Option.bind (oEs p212 0)[(AP p212 3 11)+(toNat (vI p207 0))]? fun y220=>cnd (okL 2 y220 0) (AI (fun (p221:List AV×Heap) (again222:_→Option (List Tree))=>L133_58 n y220 y216 y206 y219 p207 again218 p221 again222) n ([.t (tI 0)],(zh2 p212 [.box [],.box [],.box [.t (tI 0),.t (tI 0),.t (tI 0),.t (tI 0)]]))) none) none) none) none) none) none) none) none) none) (again210 ([],(zh2 p212 [])))
noncomputable def Ku (n:Nat) (y243:List Tree) (y239:List Tree) (y206:List Tree) (y242:List Tree) (p207:List AV×Heap) (again241:(List AV×Heap)→Option (List Tree)) (p244:List AV×Heap) (again245:(List AV×Heap)→Option (List Tree)):Option (List Tree):=cnd (decide (vI p244 0<((length (gL y243 0):Nat):Int))=true) (cnd (2=2∧(0:Int)≤vI p244 0) (Option.bind (gL y243 0)[toNat (vI p244 0)]? fun y246=>cnd (okI y246 0) (cnd (okI y246 1) (cnd (decide (w64 ((if (if gI y239 0>gI y206 3 then gI y239 0 else gI y206 3)>gI y246 0 then (if gI y239 0>gI y206 3 then gI y239 0 else gI y206 3) else gI y246 0)+(gI y242 0))≤gI y246 1)=true) (cnd (7=7∧(0:Int)≤vI p207 0) (Option.bind (cL p244 3 1)[toNat (vI p207 0)]? fun y247=>cnd (okI y247 5) (again241 ([.t (tI (vI p207 0)),.t (tI (if (if gI y239 0>gI y206 3 then gI y239 0 else gI y206 3)>gI y246 0 then (if gI y239 0>gI y206 3 then gI y239 0 else gI y206 3) else gI y246 0)),.t (tI (w64 ((if (if gI y239 0>gI y206 3 then gI y239 0 else gI y206 3)>gI y246 0 then (if gI y239 0>gI y206 3 then gI y239 0 else gI y206 3) else gI y246 0)+(gI y242 0)))),.t (tI (w64 ((w64 ((if (if gI y239 0>gI y206 3 then gI y239 0 else gI y206 3)>gI y246 0 then (if gI y239 0>gI y206 3 then gI y239 0 else gI y206 3) else gI y246 0)+(gI y242 0)))+(gI y247 5)))),.t (.bool true)],(zh2 p244 [.box [],.box []]))) none) none) (again245 ([.t (tI (w64 ((vI p244 0)+1)))],(zh2 p244 [.box [],.box [],.box [.t (tI (cI p244 19 0)),.t (tI (cI p244 19 1)),.t (tI (cI p244 19 2)),.t (tI (cI p244 19 3))]])))) none) none) none) (again241 ([.t (tI 0),.t (tI 0),.t (tI 0),.t (tI 0),.t (.bool false)],(zh2 p244 [.box [],.box []])))
noncomputable def K4 (n:Nat) (y206:List Tree) (again249:(List AV×Heap)→Option (List Tree)) (p240:List AV×Heap) (y211:List Tree) (y239:List Tree) (p250:List AV×Heap):Option (List Tree):=cnd (decide (vI p250 0>gI y206 2)=true) (again249 ([.t (.bool true)],(zh2 p250 [.box [],.box [],.box []]))) (cnd (decide (vI p240 3>cI p250 3 8)=true) (again249 ([.t (.bool true)],(zh2 p250 [.box [],.box [],.box []]))) (cnd (((gI y211 1) != (cI p250 3 5))=true) (again249 ([.t (.bool (decide (vI p240 3≥gI y239 1)))],(zh2 p250 [.box [],.box [],.box []]))) (again249 ([.t (.bool false)],(zh2 p250 [.box [],.box [],.box []])))))
noncomputable def Jd (n:Nat) (again238:(List AV×Heap)→Option (List Tree)) (p255:List AV×Heap):Option (List Tree):=again238 ([],(zh2 p255 [.box []]))
noncomputable def Jc (n:Nat) (again238:(List AV×Heap)→Option (List Tree)) (p240:List AV×Heap) (p253:List AV×Heap):Option (List Tree):=join (fun (p255:List AV×Heap)=>Jd n again238 p255) fun (again256:_→Option (List Tree))=>cnd (vB p253 0=true) (again256 ([],(zh0 p253 [zo0 p253,.box [AV.ptr 3 0],.box [.t (tI (vI p240 3))],.box [.t (.bool true)],.box [],.box [AV.ptr 3 0],.box [],.box [],.box [],.box [],.box []]))) (again256 ([],(zh2 p253 [.box [],.box [],.box [],.box []])))
noncomputable def Eg (n:Nat) (again238:(List AV×Heap)→Option (List Tree)) (p240:List AV×Heap) (y211:List Tree) (p248:List AV×Heap):Option (List Tree):=cnd (vB p248 0=true) (again238 ([],(zh2 p248 [.box []]))) (join (fun (p253:List AV×Heap)=>Jc n again238 p240 p253) fun (again254:_→Option (List Tree))=>cnd (((gI y211 1)==(cI p248 3 5))=true) (cnd ((!(cB p248 13 0))=true) (again254 ([.t (.bool true)],(zh2 p248 [.box [],.box [],.box [],.box []]))) (again254 ([.t (.bool (decide (vI p240 3<cI p248 12 0)))],(zh2 p248 [.box [],.box [],.box [],.box []])))) (again254 ([.t (.bool false)],(zh2 p248 [.box [],.box [],.box [],.box []]))))
noncomputable def GJ (n:Nat) (again238:(List AV×Heap)→Option (List Tree)) (y211:List Tree) (y206:List Tree) (y239:List Tree) (p240:List AV×Heap):Option (List Tree):=join (fun (p248:List AV×Heap)=>Eg n again238 p240 y211 p248) fun (again249:_→Option (List Tree))=>cnd ((!(vB p240 4))=true) (again249 ([.t (.bool true)],(zh2 p240 [.box [],.box [],.box []]))) (join (fun (p250:List AV×Heap)=>K4 n y206 again249 p240 y211 y239 p250) fun (again251:_→Option (List Tree))=>cnd (cB p240 3 10=true) (cnd (7=7∧(0:Int)≤vI p240 0) (Option.bind (cL p240 3 1)[toNat (vI p240 0)]? fun y252=>cnd (okI y252 5) (again251 ([.t (tI (w64 ((vI p240 2)+(w64 ((2:Int)*(gI y252 5))))))],(zh2 p240 [.box [],.box [],.box []]))) none) none) (again251 ([.t (tI (vI p240 2))],(zh2 p240 [.box [],.box [],.box []]))))
noncomputable def K3 (n:Nat) (again236:(List AV×Heap)→Option (List Tree)) (p235:List AV×Heap) (p237:List AV×Heap):Option (List Tree):=again236 ([.t (tI (w64 ((vI p235 0)+1)))],(zh2 p237 [.box []]))
noncomputable def JV (n:Nat) (y234:List Tree) (y211:List Tree) (y206:List Tree) (p207:List AV×Heap) (again210:(List AV×Heap)→Option (List Tree)) (p235:List AV×Heap) (again236:(List AV×Heap)→Option (List Tree)):Option (List Tree):=cnd (decide (vI p235 0<((length (gL y234 0):Nat):Int))=true) (join (fun (p237:List AV×Heap)=>K3 n again236 p235 p237) fun (again238:_→Option (List Tree))=>cnd (2=2∧(0:Int)≤vI p235 0) (Option.bind (gL y234 0)[toNat (vI p235 0)]? fun y239=>cnd (okI y239 0) (cnd (okI y239 1) (join (fun (p240:List AV×Heap)=>GJ n again238 y211 y206 y239 p240) fun (again241:_→Option (List Tree))=>cnd (AO p235 2=AL p235 3 13∧1=1∧(0:Int)≤vI p207 0∧vI p207 0<((AM p235 3 13:Nat):Int)) (cnd (AO p235 2=AL p235 3 13) (Option.bind (oEs p235 2)[(AP p235 3 13)+(toNat (vI p207 0))]? fun y242=>cnd (okI y242 0) (cnd (AO p235 0=AL p235 3 11∧1=1∧(0:Int)≤vI p207 0∧vI p207 0<((AM p235 3 11:Nat):Int)) (cnd (AO p235 0=AL p235 3 11) (Option.bind (oEs p235 0)[(AP p235 3 11)+(toNat (vI p207 0))]? fun y243=>cnd (okL 2 y243 0) (AI (fun (p244:List AV×Heap) (again245:_→Option (List Tree))=>Ku n y243 y239 y206 y242 p207 again241 p244 again245) n ([.t (tI 0)],(zh2 p235 [.box [],.box [],.box [.t (tI 0),.t (tI 0),.t (tI 0),.t (tI 0)]]))) none) none) none) none) none) none) none) none) none) (again210 ([],(zh2 p235 [])))
noncomputable def Hk (n:Nat) (again208:(List AV×Heap)→Option (List Tree)) (p207:List AV×Heap) (p209:List AV×Heap):Option (List Tree):=again208 ([.t (tI (w64 ((vI p207 0)+1)))],(zh2 p209 []))
noncomputable def Hh (n:Nat) (p204:List AV×Heap) (y206:List Tree) (again205:(List AV×Heap)→Option (List Tree)) (p207:List AV×Heap) (again208:(List AV×Heap)→Option (List Tree)):Option (List Tree):=cnd (decide (vI p207 0<((length (cL p204 3 1):Nat):Int))=true) (join (fun (p209:List AV×Heap)=>Hk n again208 p207 p209) fun (again210:_→Option (List Tree))=>cnd (7=7∧(0:Int)≤vI p207 0) (Option.bind (cL p204 3 1)[toNat (vI p207 0)]? fun y211=>cnd (okI y211 0) (cnd (okI y211 1) (cnd (okI y211 2) (cnd (okI y211 3) (cnd (okI y211 4) (cnd (okI y211 5) (cnd (okI y211 6) (cnd (((gI y211 0) != (gI y206 0))=true) (again210 ([],(zh2 p207 []))) (cnd (((gI y211 1)==(cI p207 3 5))=true) (AI (fun (p212:List AV×Heap) (again213:_→Option (List Tree))=>TU n y211 y206 p207 again210 p212 again213) n ([.t (tI 0)],(zh2 p207 [.box []]))) (cnd (AO p207 1=AL p207 3 12∧1=1∧(0:Int)≤gI y211 1∧gI y211 1<((AM p207 3 12:Nat):Int)) (cnd (AO p207 1=AL p207 3 12) (Option.bind (oEs p207 1)[(AP p207 3 12)+(toNat (gI y211 1))]? fun y234=>cnd (okL 2 y234 0) (AI (fun (p235:List AV×Heap) (again236:_→Option (List Tree))=>JV n y234 y211 y206 p207 again210 p235 again236) n ([.t (tI 0)],(zh2 p207 [.box []]))) none) none) none))) none) none) none) none) none) none) none) none) (again205 ([.t (tI (w64 ((vI p204 0)+1)))],(zh0 p207 [zo0 p207,.box [AV.ptr 3 0],.box [.t (tI (cI p207 12 0))],.box [.t (.bool (cB p207 13 0))]])))
noncomputable def Kt (n:Nat) (p31:List AV×Heap) (again203:(List AV×Heap)→Option (List Tree)) (p204:List AV×Heap) (again205:(List AV×Heap)→Option (List Tree)):Option (List Tree):=cnd (decide (vI p204 0<((AM p31 7 0:Nat):Int))=true) (cnd (AO p204 6=AL p31 7 0∧4=4∧(0:Int)≤vI p204 0∧vI p204 0<((AM p31 7 0:Nat):Int)) (cnd (AO p204 6=AL p31 7 0) (Option.bind (oEs p204 6)[(AP p31 7 0)+(toNat (vI p204 0))]? fun y206=>cnd (okI y206 0) (cnd (okI y206 1) (cnd (okI y206 2) (cnd (okI y206 3) (AI (fun (p207:List AV×Heap) (again208:_→Option (List Tree))=>Hh n p204 y206 again205 p207 again208) n ([.t (tI 0)],(zh2 p204 []))) none) none) none) none) none) none) (again203 ([.t (tI (cI p204 12 0)),.t (.bool (cB p204 13 0))],(zh0 p204 [zo0 p204])))
noncomputable def L133_77 (n:Nat) (y280:List Tree) (y276:List Tree) (y266:List Tree) (y279:List Tree) (p267:List AV×Heap) (again278:(List AV×Heap)→Option (List Tree)) (p281:List AV×Heap) (again282:(List AV×Heap)→Option (List Tree)):Option (List Tree):=cnd (decide (vI p281 0<((length (gL y280 0):Nat):Int))=true) (cnd (2=2∧(0:Int)≤vI p281 0) (Option.bind (gL y280 0)[toNat (vI p281 0)]? fun y283=>cnd (okI y283 0) (cnd (okI y283 1) (cnd (decide (w64 ((if (if gI y276 0>gI y266 3 then gI y276 0 else gI y266 3)>gI y283 0 then (if gI y276 0>gI y266 3 then gI y276 0 else gI y266 3) else gI y283 0)+(gI y279 0))≤gI y283 1)=true) (cnd (7=7∧(0:Int)≤vI p267 0) (Option.bind (cL p281 3 1)[toNat (vI p267 0)]? fun y284=>cnd (okI y284 5) (again278 ([.t (tI (vI p267 0)),.t (tI (if (if gI y276 0>gI y266 3 then gI y276 0 else gI y266 3)>gI y283 0 then (if gI y276 0>gI y266 3 then gI y276 0 else gI y266 3) else gI y283 0)),.t (tI (w64 ((if (if gI y276 0>gI y266 3 then gI y276 0 else gI y266 3)>gI y283 0 then (if gI y276 0>gI y266 3 then gI y276 0 else gI y266 3) else gI y283 0)+(gI y279 0)))),.t (tI (w64 ((w64 ((if (if gI y276 0>gI y266 3 then gI y276 0 else gI y266 3)>gI y283 0 then (if gI y276 0>gI y266 3 then gI y276 0 else gI y266 3) else gI y283 0)+(gI y279 0)))+(gI y284 5)))),.t (.bool true)],(zh1 p281 [.box [],.box []]))) none) none) (again282 ([.t (tI (w64 ((vI p281 0)+1)))],(zh1 p281 [.box [],.box [],.box [.t (tI (cI p281 21 0)),.t (tI (cI p281 21 1)),.t (tI (cI p281 21 2)),.t (tI (cI p281 21 3))]])))) none) none) none) (again278 ([.t (tI 0),.t (tI 0),.t (tI 0),.t (tI 0),.t (.bool false)],(zh1 p281 [.box [],.box []])))
noncomputable def J133_78 (n:Nat) (y266:List Tree) (again286:(List AV×Heap)→Option (List Tree)) (p277:List AV×Heap) (y271:List Tree) (y276:List Tree) (p287:List AV×Heap):Option (List Tree):=cnd (decide (vI p287 0>gI y266 2)=true) (again286 ([.t (.bool true)],(zh1 p287 [.box [],.box [],.box []]))) (cnd (decide (vI p277 3>cI p287 3 8)=true) (again286 ([.t (.bool true)],(zh1 p287 [.box [],.box [],.box []]))) (cnd (((gI y271 1) != (cI p287 3 5))=true) (again286 ([.t (.bool (decide (vI p277 3≥gI y276 1)))],(zh1 p287 [.box [],.box [],.box []]))) (again286 ([.t (.bool false)],(zh1 p287 [.box [],.box [],.box []])))))
noncomputable def J133_79 (n:Nat) (again263:(List AV×Heap)→Option (List Tree)) (p277:List AV×Heap) (again275:(List AV×Heap)→Option (List Tree)) (p290:List AV×Heap):Option (List Tree):=cnd (vB p290 0=true) (again263 ([.t (tI (cI p290 16 0)),.t (tI (cI p290 16 1)),.t (tI (cI p290 16 2)),.t (tI (cI p290 16 3)),.t (tI (vI p277 0)),.t (tI (vI p277 1)),.t (tI (vI p277 2)),.t (tI (vI p277 3)),.t (.bool true)],(zh5 p290 []))) (again275 ([],(zh1 p290 [.box []])))
noncomputable def J133_80 (n:Nat) (again275:(List AV×Heap)→Option (List Tree)) (again263:(List AV×Heap)→Option (List Tree)) (p277:List AV×Heap) (y271:List Tree) (y276:List Tree) (y261:List Tree) (p285:List AV×Heap):Option (List Tree):=cnd (vB p285 0=true) (again275 ([],(zh1 p285 [.box []]))) (join (fun (p290:List AV×Heap)=>J133_79 n again263 p277 again275 p290) fun (again291:_→Option (List Tree))=>Option.bind (AK C n 91 [tI (gI y271 1),tI (gI y276 0),tI (gI y276 1),tI (vI p277 3),tI (gI y261 0),tI (gI y261 1),tI (gI y261 2),tI (gI y261 3)]) fun y292=>cnd (length y292=1) (cnd (okB y292 0) (cnd (gB y292 0=true) (again291 ([.t (.bool ((vI p277 3)==(gI y261 3)))],(zh1 p285 [.box [],.box [],.box [],.box []]))) (again291 ([.t (.bool false)],(zh1 p285 [.box [],.box [],.box [],.box []])))) none) none)
noncomputable def J133_81 (n:Nat) (again275:(List AV×Heap)→Option (List Tree)) (again263:(List AV×Heap)→Option (List Tree)) (y271:List Tree) (y276:List Tree) (y261:List Tree) (y266:List Tree) (p277:List AV×Heap):Option (List Tree):=join (fun (p285:List AV×Heap)=>J133_80 n again275 again263 p277 y271 y276 y261 p285) fun (again286:_→Option (List Tree))=>cnd ((!(vB p277 4))=true) (again286 ([.t (.bool true)],(zh1 p277 [.box [],.box [],.box []]))) (join (fun (p287:List AV×Heap)=>J133_78 n y266 again286 p277 y271 y276 p287) fun (again288:_→Option (List Tree))=>cnd (cB p277 3 10=true) (cnd (7=7∧(0:Int)≤vI p277 0) (Option.bind (cL p277 3 1)[toNat (vI p277 0)]? fun y289=>cnd (okI y289 5) (again288 ([.t (tI (w64 ((vI p277 2)+(w64 ((2:Int)*(gI y289 5))))))],(zh1 p277 [.box [],.box [],.box []]))) none) none) (again288 ([.t (tI (vI p277 2))],(zh1 p277 [.box [],.box [],.box []]))))
noncomputable def J133_82 (n:Nat) (again273:(List AV×Heap)→Option (List Tree)) (p272:List AV×Heap) (p274:List AV×Heap):Option (List Tree):=again273 ([.t (tI (w64 ((vI p272 0)+1)))],(zh1 p274 [.box []]))
noncomputable def TS (n:Nat) (again263:(List AV×Heap)→Option (List Tree)) (y271:List Tree) (y261:List Tree) (y266:List Tree) (p267:List AV×Heap) (again270:(List AV×Heap)→Option (List Tree)) (p272:List AV×Heap) (again273:(List AV×Heap)→Option (List Tree)):Option (List Tree):=cnd (decide (vI p272 0<1)=true) (join (fun (p274:List AV×Heap)=>J133_82 n again273 p272 p274) fun (again275:_→Option (List Tree))=>cnd (2=2∧(0:Int)≤vI p272 0) (Option.bind [[tI 0,tI 1099511627776]][toNat (vI p272 0)]? fun y276=>cnd (okI y276 0) (cnd (okI y276 1) (join (fun (p277:List AV×Heap)=>J133_81 n again275 again263 y271 y276 y261 y266 p277) fun (again278:_→Option (List Tree))=>cnd (AO p272 2=AL p272 3 13∧1=1∧(0:Int)≤vI p267 0∧vI p267 0<((AM p272 3 13:Nat):Int)) (cnd (AO p272 2=AL p272 3 13) (Option.bind (oEs p272 2)[(AP p272 3 13)+(toNat (vI p267 0))]? fun y279=>cnd (okI y279 0) (cnd (AO p272 0=AL p272 3 11∧1=1∧(0:Int)≤vI p267 0∧vI p267 0<((AM p272 3 11:Nat):Int)) (cnd (AO p272 0=AL p272 3 11) (Option.bind (oEs p272 0)[(AP p272 3 11)+(toNat (vI p267 0))]? fun y280=>cnd (okL 2 y280 0) (AI (fun (p281:List AV×Heap) (again282:_→Option (List Tree))=>L133_77 n y280 y276 y266 y279 p267 again278 p281 again282) n ([.t (tI 0)],(zh1 p272 [.box [],.box [],.box [.t (tI 0),.t (tI 0),.t (tI 0),.t (tI 0)]]))) none) none) none) none) none) none) none) none) none) (again270 ([],(zh1 p272 [])))
noncomputable def Ks (n:Nat) (y302:List Tree) (y298:List Tree) (y266:List Tree) (y301:List Tree) (p267:List AV×Heap) (again300:(List AV×Heap)→Option (List Tree)) (p303:List AV×Heap) (again304:(List AV×Heap)→Option (List Tree)):Option (List Tree):=cnd (decide (vI p303 0<((length (gL y302 0):Nat):Int))=true) (cnd (2=2∧(0:Int)≤vI p303 0) (Option.bind (gL y302 0)[toNat (vI p303 0)]? fun y305=>cnd (okI y305 0) (cnd (okI y305 1) (cnd (decide (w64 ((if (if gI y298 0>gI y266 3 then gI y298 0 else gI y266 3)>gI y305 0 then (if gI y298 0>gI y266 3 then gI y298 0 else gI y266 3) else gI y305 0)+(gI y301 0))≤gI y305 1)=true) (cnd (7=7∧(0:Int)≤vI p267 0) (Option.bind (cL p303 3 1)[toNat (vI p267 0)]? fun y306=>cnd (okI y306 5) (again300 ([.t (tI (vI p267 0)),.t (tI (if (if gI y298 0>gI y266 3 then gI y298 0 else gI y266 3)>gI y305 0 then (if gI y298 0>gI y266 3 then gI y298 0 else gI y266 3) else gI y305 0)),.t (tI (w64 ((if (if gI y298 0>gI y266 3 then gI y298 0 else gI y266 3)>gI y305 0 then (if gI y298 0>gI y266 3 then gI y298 0 else gI y266 3) else gI y305 0)+(gI y301 0)))),.t (tI (w64 ((w64 ((if (if gI y298 0>gI y266 3 then gI y298 0 else gI y266 3)>gI y305 0 then (if gI y298 0>gI y266 3 then gI y298 0 else gI y266 3) else gI y305 0)+(gI y301 0)))+(gI y306 5)))),.t (.bool true)],(zh1 p303 [.box [],.box []]))) none) none) (again304 ([.t (tI (w64 ((vI p303 0)+1)))],(zh1 p303 [.box [],.box [],.box [.t (tI (cI p303 21 0)),.t (tI (cI p303 21 1)),.t (tI (cI p303 21 2)),.t (tI (cI p303 21 3))]])))) none) none) none) (again300 ([.t (tI 0),.t (tI 0),.t (tI 0),.t (tI 0),.t (.bool false)],(zh1 p303 [.box [],.box []])))
noncomputable def K2 (n:Nat) (y266:List Tree) (again308:(List AV×Heap)→Option (List Tree)) (p299:List AV×Heap) (y271:List Tree) (y298:List Tree) (p309:List AV×Heap):Option (List Tree):=cnd (decide (vI p309 0>gI y266 2)=true) (again308 ([.t (.bool true)],(zh1 p309 [.box [],.box [],.box []]))) (cnd (decide (vI p299 3>cI p309 3 8)=true) (again308 ([.t (.bool true)],(zh1 p309 [.box [],.box [],.box []]))) (cnd (((gI y271 1) != (cI p309 3 5))=true) (again308 ([.t (.bool (decide (vI p299 3≥gI y298 1)))],(zh1 p309 [.box [],.box [],.box []]))) (again308 ([.t (.bool false)],(zh1 p309 [.box [],.box [],.box []])))))
noncomputable def Kz (n:Nat) (again263:(List AV×Heap)→Option (List Tree)) (p299:List AV×Heap) (again297:(List AV×Heap)→Option (List Tree)) (p312:List AV×Heap):Option (List Tree):=cnd (vB p312 0=true) (again263 ([.t (tI (cI p312 16 0)),.t (tI (cI p312 16 1)),.t (tI (cI p312 16 2)),.t (tI (cI p312 16 3)),.t (tI (vI p299 0)),.t (tI (vI p299 1)),.t (tI (vI p299 2)),.t (tI (vI p299 3)),.t (.bool true)],(zh5 p312 []))) (again297 ([],(zh1 p312 [.box []])))
noncomputable def FP (n:Nat) (again297:(List AV×Heap)→Option (List Tree)) (again263:(List AV×Heap)→Option (List Tree)) (p299:List AV×Heap) (y271:List Tree) (y298:List Tree) (y261:List Tree) (p307:List AV×Heap):Option (List Tree):=cnd (vB p307 0=true) (again297 ([],(zh1 p307 [.box []]))) (join (fun (p312:List AV×Heap)=>Kz n again263 p299 again297 p312) fun (again313:_→Option (List Tree))=>Option.bind (AK C n 91 [tI (gI y271 1),tI (gI y298 0),tI (gI y298 1),tI (vI p299 3),tI (gI y261 0),tI (gI y261 1),tI (gI y261 2),tI (gI y261 3)]) fun y314=>cnd (length y314=1) (cnd (okB y314 0) (cnd (gB y314 0=true) (again313 ([.t (.bool ((vI p299 3)==(gI y261 3)))],(zh1 p307 [.box [],.box [],.box [],.box []]))) (again313 ([.t (.bool false)],(zh1 p307 [.box [],.box [],.box [],.box []])))) none) none)
noncomputable def GI (n:Nat) (again297:(List AV×Heap)→Option (List Tree)) (again263:(List AV×Heap)→Option (List Tree)) (y271:List Tree) (y298:List Tree) (y261:List Tree) (y266:List Tree) (p299:List AV×Heap):Option (List Tree):=join (fun (p307:List AV×Heap)=>FP n again297 again263 p299 y271 y298 y261 p307) fun (again308:_→Option (List Tree))=>cnd ((!(vB p299 4))=true) (again308 ([.t (.bool true)],(zh1 p299 [.box [],.box [],.box []]))) (join (fun (p309:List AV×Heap)=>K2 n y266 again308 p299 y271 y298 p309) fun (again310:_→Option (List Tree))=>cnd (cB p299 3 10=true) (cnd (7=7∧(0:Int)≤vI p299 0) (Option.bind (cL p299 3 1)[toNat (vI p299 0)]? fun y311=>cnd (okI y311 5) (again310 ([.t (tI (w64 ((vI p299 2)+(w64 ((2:Int)*(gI y311 5))))))],(zh1 p299 [.box [],.box [],.box []]))) none) none) (again310 ([.t (tI (vI p299 2))],(zh1 p299 [.box [],.box [],.box []]))))
noncomputable def Jb (n:Nat) (again295:(List AV×Heap)→Option (List Tree)) (p294:List AV×Heap) (p296:List AV×Heap):Option (List Tree):=again295 ([.t (tI (w64 ((vI p294 0)+1)))],(zh1 p296 [.box []]))
noncomputable def JU (n:Nat) (y293:List Tree) (again263:(List AV×Heap)→Option (List Tree)) (y271:List Tree) (y261:List Tree) (y266:List Tree) (p267:List AV×Heap) (again270:(List AV×Heap)→Option (List Tree)) (p294:List AV×Heap) (again295:(List AV×Heap)→Option (List Tree)):Option (List Tree):=cnd (decide (vI p294 0<((length (gL y293 0):Nat):Int))=true) (join (fun (p296:List AV×Heap)=>Jb n again295 p294 p296) fun (again297:_→Option (List Tree))=>cnd (2=2∧(0:Int)≤vI p294 0) (Option.bind (gL y293 0)[toNat (vI p294 0)]? fun y298=>cnd (okI y298 0) (cnd (okI y298 1) (join (fun (p299:List AV×Heap)=>GI n again297 again263 y271 y298 y261 y266 p299) fun (again300:_→Option (List Tree))=>cnd (AO p294 2=AL p294 3 13∧1=1∧(0:Int)≤vI p267 0∧vI p267 0<((AM p294 3 13:Nat):Int)) (cnd (AO p294 2=AL p294 3 13) (Option.bind (oEs p294 2)[(AP p294 3 13)+(toNat (vI p267 0))]? fun y301=>cnd (okI y301 0) (cnd (AO p294 0=AL p294 3 11∧1=1∧(0:Int)≤vI p267 0∧vI p267 0<((AM p294 3 11:Nat):Int)) (cnd (AO p294 0=AL p294 3 11) (Option.bind (oEs p294 0)[(AP p294 3 11)+(toNat (vI p267 0))]? fun y302=>cnd (okL 2 y302 0) (AI (fun (p303:List AV×Heap) (again304:_→Option (List Tree))=>Ks n y302 y298 y266 y301 p267 again300 p303 again304) n ([.t (tI 0)],(zh1 p294 [.box [],.box [],.box [.t (tI 0),.t (tI 0),.t (tI 0),.t (tI 0)]]))) none) none) none) none) none) none) none) none) none) (again270 ([],(zh1 p294 [])))
noncomputable def FO (n:Nat) (again268:(List AV×Heap)→Option (List Tree)) (p267:List AV×Heap) (p269:List AV×Heap):Option (List Tree):=again268 ([.t (tI (w64 ((vI p267 0)+1)))],(zh1 p269 []))
noncomputable def Hg (n:Nat) (p264:List AV×Heap) (y266:List Tree) (again263:(List AV×Heap)→Option (List Tree)) (y261:List Tree) (again265:(List AV×Heap)→Option (List Tree)) (p267:List AV×Heap) (again268:(List AV×Heap)→Option (List Tree)):Option (List Tree):=cnd (decide (vI p267 0<((length (cL p264 3 1):Nat):Int))=true) (join (fun (p269:List AV×Heap)=>FO n again268 p267 p269) fun (again270:_→Option (List Tree))=>cnd (7=7∧(0:Int)≤vI p267 0) (Option.bind (cL p264 3 1)[toNat (vI p267 0)]? fun y271=>cnd (okI y271 0) (cnd (okI y271 1) (cnd (okI y271 2) (cnd (okI y271 3) (cnd (okI y271 4) (cnd (okI y271 5) (cnd (okI y271 6) (cnd (((gI y271 0) != (gI y266 0))=true) (again270 ([],(zh1 p267 []))) (cnd (((gI y271 1)==(cI p267 3 5))=true) (AI (fun (p272:List AV×Heap) (again273:_→Option (List Tree))=>TS n again263 y271 y261 y266 p267 again270 p272 again273) n ([.t (tI 0)],(zh1 p267 [.box []]))) (cnd (AO p267 1=AL p267 3 12∧1=1∧(0:Int)≤gI y271 1∧gI y271 1<((AM p267 3 12:Nat):Int)) (cnd (AO p267 1=AL p267 3 12) (Option.bind (oEs p267 1)[(AP p267 3 12)+(toNat (gI y271 1))]? fun y293=>cnd (okL 2 y293 0) (AI (fun (p294:List AV×Heap) (again295:_→Option (List Tree))=>JU n y293 again263 y271 y261 y266 p267 again270 p294 again295) n ([.t (tI 0)],(zh1 p267 [.box []]))) none) none) none))) none) none) none) none) none) none) none) none) (again265 ([.t (tI (w64 ((vI p264 0)+1)))],(zh5 p267 [.box [.t (tI (cI p267 13 0)),.t (tI (cI p267 13 1)),.t (tI (cI p267 13 2)),.t (tI (cI p267 13 3))],.box [.t (tI (cI p267 14 0)),.t (tI (cI p267 14 1)),.t (tI (cI p267 14 2)),.t (tI (cI p267 14 3))],.box [.t (.bool (cB p267 15 0))]])))
noncomputable def Kr (n:Nat) (p259:List AV×Heap) (again263:(List AV×Heap)→Option (List Tree)) (y261:List Tree) (p264:List AV×Heap) (again265:(List AV×Heap)→Option (List Tree)):Option (List Tree):=cnd (decide (vI p264 0<((AM p259 10 0:Nat):Int))=true) (cnd (AO p264 6=AL p259 10 0∧4=4∧(0:Int)≤vI p264 0∧vI p264 0<((AM p259 10 0:Nat):Int)) (cnd (AO p264 6=AL p259 10 0) (Option.bind (oEs p264 6)[(AP p259 10 0)+(toNat (vI p264 0))]? fun y266=>cnd (okI y266 0) (cnd (okI y266 1) (cnd (okI y266 2) (cnd (okI y266 3) (AI (fun (p267:List AV×Heap) (again268:_→Option (List Tree))=>Hg n p264 y266 again263 y261 again265 p267 again268) n ([.t (tI 0)],(zh5 p264 [.box [.t (tI (cI p264 13 0)),.t (tI (cI p264 13 1)),.t (tI (cI p264 13 2)),.t (tI (cI p264 13 3))],.box [.t (tI (cI p264 14 0)),.t (tI (cI p264 14 1)),.t (tI (cI p264 14 2)),.t (tI (cI p264 14 3))],.box [.t (.bool (cB p264 15 0))],.box [.t (tI (gI y266 0)),.t (tI (gI y266 1)),.t (tI (gI y266 2)),.t (tI (gI y266 3))],.box [AV.ptr 3 0],.box []]))) none) none) none) none) none) none) (again263 ([.t (tI 0),.t (tI 0),.t (tI 0),.t (tI 0),.t (tI 0),.t (tI 0),.t (tI 0),.t (tI 0),.t (.bool false)],(zh5 p264 [])))
noncomputable def Ky (n:Nat) (again258:(List AV×Heap)→Option (List Tree)) (p259:List AV×Heap) (again260:(List AV×Heap)→Option (List Tree)) (p316:List AV×Heap):Option (List Tree):=cnd (vB p316 0=true) (again258 ([.sref 12 ((Bu p259 0)+1) 0 ((Av p259 0)+1)],(zh5 p316 []))) (cnd (AO p316 11=Bu p259 1) (Option.bind (oEs p316 11)[0]? fun y318=>cnd (okI y318 0) (cnd (okI y318 1) (cnd (okI y318 2) (cnd (okI y318 3) (cnd ((AO p316 11)+1=(AO p316 11)+1∧4≤4) (again260 ([.sref 12 ((Bu p259 0)+1) 0 ((Av p259 0)+1),.rptr 11 ((AO p316 11)+1) 0 0],(zh0 p316 [zo0 p316,.row false ((AO p316 11)+1) 4 [[tI (gI y318 0),tI (gI y318 1),tI (gI y318 2),tI (gI y318 3)]],.row false (AO p316 12) 4 (oEs p316 12)]))) none) none) none) none) none) none)
noncomputable def FN (n:Nat) (again258:(List AV×Heap)→Option (List Tree)) (p259:List AV×Heap) (again260:(List AV×Heap)→Option (List Tree)) (a4:Int) (a7:Int) (p262:List AV×Heap):Option (List Tree):=cnd ((!(vB p262 8))=true) (again258 ([.sref 12 (Bu p259 0) (C8 p259 0) (Av p259 0)],(zh5 p262 []))) (cnd (AO p262 12=Bu p259 0∧(4=4∨4=0)∧(C8 p259 0)+(Av p259 0)≤length (oEs p262 12)∧(Av p259 0)+1≤1073741824) (cnd (AO p262 11=Bu p259 1∧4≤4) (Option.bind (oEs p262 11)[0]? fun y315=>join (fun (p316:List AV×Heap)=>Ky n again258 p259 again260 p316) fun (again317:_→Option (List Tree))=>cnd (((vI p262 0)==a4)=true) (again317 ([.t (.bool ((vI p262 3)==a7))],(zh0 p262 [zo0 p262,.row false (Bu p259 1) 4 (List.set (oEs p262 11) 0 ([tI (vI p262 0),tI (vI p262 1),tI (vI p262 2),tI (vI p262 3)]++drop 4 y315)),.row false ((Bu p259 0)+1) 4 ((take (Av p259 0) (drop (C8 p259 0) (oEs p262 12)))++[[tI (vI p262 4),tI (vI p262 5),tI (vI p262 6),tI (vI p262 7)]]),.box [.t (tI (vI p262 0)),.t (tI (vI p262 1)),.t (tI (vI p262 2)),.t (tI (vI p262 3))],.box []]))) (again317 ([.t (.bool false)],(zh0 p262 [zo0 p262,.row false (Bu p259 1) 4 (List.set (oEs p262 11) 0 ([tI (vI p262 0),tI (vI p262 1),tI (vI p262 2),tI (vI p262 3)]++drop 4 y315)),.row false ((Bu p259 0)+1) 4 ((take (Av p259 0) (drop (C8 p259 0) (oEs p262 12)))++[[tI (vI p262 4),tI (vI p262 5),tI (vI p262 6),tI (vI p262 7)]]),.box [.t (tI (vI p262 0)),.t (tI (vI p262 1)),.t (tI (vI p262 2)),.t (tI (vI p262 3))],.box []])))) none) none)
noncomputable def PE (n:Nat) (again258:(List AV×Heap)→Option (List Tree)) (a4:Int) (a7:Int) (p259:List AV×Heap) (again260:(List AV×Heap)→Option (List Tree)):Option (List Tree):=cnd (AO p259 11=Bu p259 1) (Option.bind (oEs p259 11)[0]? fun y261=>cnd (okI y261 0) (cnd (okI y261 1) (cnd (okI y261 2) (cnd (okI y261 3) (join (fun (p262:List AV×Heap)=>FN n again258 p259 again260 a4 a7 p262) fun (again263:_→Option (List Tree))=>cnd (AO p259 6=AL p259 10 0) (AI (fun (p264:List AV×Heap) (again265:_→Option (List Tree))=>Kr n p259 again263 y261 p264 again265) n ([.t (tI 0)],(zh5 p259 [.box [.t (tI 0),.t (tI 0),.t (tI 0),.t (tI 0)],.box [.t (tI 0),.t (tI 0),.t (tI 0),.t (tI 0)],.box [.t (.bool false)]]))) none) none) none) none) none) none
noncomputable def Kq (n:Nat) (p257:List AV×Heap) (again320:(List AV×Heap)→Option (List Tree)) (p321:List AV×Heap) (again322:(List AV×Heap)→Option (List Tree)):Option (List Tree):=cnd (decide (vI p321 0<vI p321 1)=true) (cnd (AO p321 12=Bu p257 0∧4=4∧(0:Int)≤vI p321 1∧vI p321 1<((Av p257 0:Nat):Int)) (cnd (AO p321 12=Bu p257 0) (Option.bind (oEs p321 12)[(C8 p257 0)+(toNat (vI p321 1))]? fun y323=>cnd (okI y323 0) (cnd (okI y323 1) (cnd (okI y323 2) (cnd (okI y323 3) (cnd (AO p321 12=Bu p257 0∧4=4∧(0:Int)≤vI p321 0∧vI p321 0<((Av p257 0:Nat):Int)) (cnd (AO p321 12=Bu p257 0) (Option.bind (oEs p321 12)[(C8 p257 0)+(toNat (vI p321 0))]? fun y324=>cnd (okI y324 0) (cnd (okI y324 1) (cnd (okI y324 2) (cnd (okI y324 3) (cnd (AO p321 12=Bu p257 0∧4=4∧(0:Int)≤vI p321 0∧vI p321 0<((Av p257 0:Nat):Int)) (cnd (AO p321 12=Bu p257 0∧4≤4) (Option.bind (oEs p321 12)[(C8 p257 0)+(toNat (vI p321 0))]? fun y325=>cnd (Bu p257 0=Bu p257 0∧4=4∧(0:Int)≤vI p321 1∧vI p321 1<((Av p257 0:Nat):Int)) (cnd (Bu p257 0=Bu p257 0∧4≤4) (Option.bind (List.set (oEs p321 12) ((C8 p257 0)+(toNat (vI p321 0))) ([tI (gI y323 0),tI (gI y323 1),tI (gI y323 2),tI (gI y323 3)]++drop 4 y325))[(C8 p257 0)+(toNat (vI p321 1))]? fun y326=>again322 ([.t (tI (w64 ((vI p321 0)+1))),.t (tI (w64 ((vI p321 1)-(1:Int))))],(zh0 p321 [zo0 p321,.row false (AO p321 11) 4 (oEs p321 11),.row false (Bu p257 0) 4 (List.set (List.set (oEs p321 12) ((C8 p257 0)+(toNat (vI p321 0))) ([tI (gI y323 0),tI (gI y323 1),tI (gI y323 2),tI (gI y323 3)]++drop 4 y325)) ((C8 p257 0)+(toNat (vI p321 1))) ([tI (gI y324 0),tI (gI y324 1),tI (gI y324 2),tI (gI y324 3)]++drop 4 y326))]))) none) none) none) none) none) none) none) none) none) none) none) none) none) none) none) none) (again320 ([],(zh5 p321 [])))
noncomputable def PH (n:Nat) (p257:List AV×Heap) (p319:List AV×Heap):Option (List Tree):=cnd ((false=true∨false=false)∧AO p319 12=Bu p257 0∧(4=4∨4=0)) (some [.sl 4 (take (Av p257 0) (drop (C8 p257 0) (oEs p319 12))),tI 0]) none
noncomputable def Kx (n:Nat)  (p257:List AV×Heap):Option (List Tree):=cnd (AO p257 12=Bu p257 0) (cnd (decide (((Av p257 0:Nat):Int)>1000)=true) (some [.sl 4 [],tI 4]) (join (fun (p319:List AV×Heap)=>PH n p257 p319) fun (again320:_→Option (List Tree))=>cnd (AO p257 12=Bu p257 0) (AI (fun (p321:List AV×Heap) (again322:_→Option (List Tree))=>Kq n p257 again320 p321 again322) n ([.t (tI 0),.t (tI (w64 (((Av p257 0:Nat):Int)-(1:Int))))],(zh5 p257 []))) none)) none
noncomputable def HE (n:Nat) (a4:Int) (a7:Int) (a5:Int) (p202:List AV×Heap):Option (List Tree):=cnd ((!(vB p202 1))=true) (some [.sl 4 [],tI 18]) (join (fun (p257:List AV×Heap)=>Kx n p257) fun (again258:_→Option (List Tree))=>AI (fun (p259:List AV×Heap) (again260:_→Option (List Tree))=>PE n again258 a4 a7 p259 again260) n ([.sref 12 0 0 0,.rptr 11 0 0 0],(zh0 p202 [zo0 p202,.row false 0 4 [[tI a5,tI 0,tI 1099511627776,tI (vI p202 0)]],.row false 0 4 []])))
noncomputable def Ja (n:Nat) (a4:Int) (a7:Int) (a5:Int) (p31:List AV×Heap) (again32:(List AV×Heap)→Option (List Tree)):Option (List Tree):=cnd (AO p31 8=AL p31 9 0) (cnd (decide (((AM p31 9 0:Nat):Int)>0)=true) (join (fun (p33:List AV×Heap)=>K5 n again32 p33) fun (again34:_→Option (List Tree))=>cnd (AO p31 8=AL p31 9 0) (cnd (decide (((AM p31 9 0:Nat):Int)<1)=true) none (cnd (AO p31 8=AL p31 9 0∧4=4∧(0:Int)≤0∧(0:Int)<((AM p31 9 0:Nat):Int)) (cnd (AO p31 8=AL p31 9 0) (Option.bind (oEs p31 8)[AP p31 9 0]? fun y37=>cnd (okI y37 0) (cnd (okI y37 1) (cnd (okI y37 2) (cnd (okI y37 3) (AI (fun (p38:List AV×Heap) (again39:_→Option (List Tree))=>PG n p31 again34 p38 again39) n ([.t (tI 1)],(zh0 p31 [.box [.t (tI 0),.t (tI 0),.t (tI 0),.t (tI 0)],.box [.t (tI (gI y37 0)),.t (tI (gI y37 1)),.t (tI (gI y37 2)),.t (tI (gI y37 3))]]))) none) none) none) none) none) none)) none) (cnd (AO p31 6=AL p31 7 0∧4=4∧(AP p31 7 0)+(AM p31 7 0)≤length (oEs p31 6)∧AM p31 7 0≤1073741824∧Ax 4 (take (AM p31 7 0) (drop (AP p31 7 0) (oEs p31 6)))=true) (join (fun (p202:List AV×Heap)=>HE n a4 a7 a5 p202) fun (again203:_→Option (List Tree))=>cnd (AL p31 7 0=AL p31 7 0) (AI (fun (p204:List AV×Heap) (again205:_→Option (List Tree))=>Kt n p31 again203 p204 again205) n ([.t (tI 0)],(zh3 p31 [.row false (AL p31 7 0) 4 (A3 (oEs p31 6) (AP p31 7 0) ((GV (BP [3,0,1])) (take (AM p31 7 0) (drop (AP p31 7 0) (oEs p31 6))))),zo1 p31,.row false (AO p31 8) 4 (oEs p31 8),.box [.sref 8 (AL p31 9 0) (AP p31 9 0) (AM p31 9 0)],zo1 p31,.box [AV.ptr 3 0],.box [.t (tI 0)],.box [.t (.bool false)]]))) none) none)) none
noncomputable def Fu (n:Nat) (y23:List Tree) (a4:Int) (a7:Int) (a5:Int) (p24:List AV×Heap) (again25:(List AV×Heap)→Option (List Tree)):Option (List Tree):=cnd (decide (vI p24 0<((length (gL y23 0):Nat):Int))=true) (cnd (2=2∧(0:Int)≤vI p24 0) (Option.bind (gL y23 0)[toNat (vI p24 0)]? fun y26=>cnd (okI y26 0) (cnd (okI y26 1) (join (fun (p27:List AV×Heap)=>PL n again25 p24 y26 p27) fun (again28:_→Option (List Tree))=>cnd (decide (gI y26 0≤cI p24 3 7)=true) (again28 ([.t (.bool (decide (cI p24 3 7<gI y26 1)))],(zh0 p24 [.box []]))) (again28 ([.t (.bool false)],(zh0 p24 [.box []])))) none) none) none) (AI (fun (p31:List AV×Heap) (again32:_→Option (List Tree))=>Ja n a4 a7 a5 p31 again32) n ([],(zh0 p24 [])))
noncomputable def JZ (n:Nat) (a0:List (List Tree)) (a1:List (List Tree)) (a3:List (List Tree)) (a6:Int) (a4:Int) (a7:Int) (a5:Int) (p20:List AV×Heap) (again21:(List AV×Heap)→Option (List Tree)):Option (List Tree):=cnd (decide (vI p20 0<((length a0:Nat):Int))=true) (Option.bind (AK C n 85 [.sl 1 a0,.sl 7 a1,.sl 5 a3,tI (vI p20 0),tI a6]) fun y22=>cnd (length y22=2) (cnd (okL 2 y22 0) (cnd (okI y22 1) (cnd (AO p20 1=AL p20 3 12∧(1=1∨1=0)∧(AP p20 3 12)+(AM p20 3 12)≤length (oEs p20 1)∧(AM p20 3 12)+1≤1073741824) (again21 ([.t (tI (w64 ((vI p20 0)+1)))],[.row false (AO p20 0) 1 (oEs p20 0),.row false ((AL p20 3 12)+1) 1 ((take (AM p20 3 12) (drop (AP p20 3 12) (oEs p20 1)))++[[.sl 2 (gL y22 0)]]),.row false (AO p20 2) 1 (oEs p20 2),.box [.t (.sl 1 (cL p20 3 0)),.t (.sl 7 (cL p20 3 1)),.t (.sl 4 (cL p20 3 2)),.t (.sl 5 (cL p20 3 3)),.t (tI (cI p20 3 4)),.t (tI (cI p20 3 5)),.t (tI (cI p20 3 6)),.t (tI (cI p20 3 7)),.t (tI (cI p20 3 8)),.t (tI (cI p20 3 9)),.t (.bool (cB p20 3 10)),.sref 0 (AL p20 3 11) (AP p20 3 11) (AM p20 3 11),.sref 1 ((AL p20 3 12)+1) 0 ((AM p20 3 12)+1),.sref 2 (AL p20 3 13) (AP p20 3 13) (AM p20 3 13)]])) none) none) none) none) (cnd (AO p20 1=AL p20 3 12∧1=1∧(0:Int)≤cI p20 3 4∧cI p20 3 4<((AM p20 3 12:Nat):Int)) (cnd (AO p20 1=AL p20 3 12) (Option.bind (oEs p20 1)[(AP p20 3 12)+(toNat (cI p20 3 4))]? fun y23=>cnd (okL 2 y23 0) (AI (fun (p24:List AV×Heap) (again25:_→Option (List Tree))=>Fu n y23 a4 a7 a5 p24 again25) n ([.t (tI 0)],(zh3 p20 [.row false 0 4 [],.box [.sref 6 0 0 0],.row false 0 4 [],.box [.sref 8 0 0 0]]))) none) none) none)
noncomputable def JY (n:Nat) (a1:List (List Tree)) (a0:List (List Tree)) (a2:List (List Tree)) (a6:Int) (a3:List (List Tree)) (a4:Int) (a7:Int) (a5:Int) (p15:List AV×Heap) (again16:(List AV×Heap)→Option (List Tree)):Option (List Tree):=cnd (decide (vI p15 0<((length a1:Nat):Int))=true) (cnd (7=7∧(0:Int)≤vI p15 0) (Option.bind a1[toNat (vI p15 0)]? fun y17=>cnd (okI y17 0) (cnd (okI y17 1) (cnd (okI y17 2) (cnd (okI y17 3) (cnd (okI y17 4) (cnd (okI y17 5) (cnd (okI y17 6) (Option.bind (AK C n 83 [.sl 1 a0,.sl 7 a1,.sl 4 a2,tI (vI p15 0)]) fun y18=>cnd (length y18=2) (cnd (okL 2 y18 0) (cnd (okI y18 1) (Option.bind (AK C n 84 [tI (gI y17 0),tI (gI y17 1),tI (gI y17 2),tI (gI y17 3),tI (gI y17 4),tI (gI y17 5),tI (gI y17 6),tI a6]) fun y19=>cnd (length y19=2) (cnd (okI y19 0) (cnd (okI y19 1) (cnd (AO p15 0=AL p15 3 11∧(1=1∨1=0)∧(AP p15 3 11)+(AM p15 3 11)≤length (oEs p15 0)∧(AM p15 3 11)+1≤1073741824) (cnd (AO p15 2=AL p15 3 13∧(1=1∨1=0)∧(AP p15 3 13)+(AM p15 3 13)≤length (oEs p15 2)∧(AM p15 3 13)+1≤1073741824) (again16 ([.t (tI (w64 ((vI p15 0)+1)))],[.row false ((AL p15 3 11)+1) 1 ((take (AM p15 3 11) (drop (AP p15 3 11) (oEs p15 0)))++[[.sl 2 (gL y18 0)]]),.row false (AO p15 1) 1 (oEs p15 1),.row false ((AL p15 3 13)+1) 1 ((take (AM p15 3 13) (drop (AP p15 3 13) (oEs p15 2)))++[[tI (gI y19 0)]]),.box [.t (.sl 1 (cL p15 3 0)),.t (.sl 7 (cL p15 3 1)),.t (.sl 4 (cL p15 3 2)),.t (.sl 5 (cL p15 3 3)),.t (tI (cI p15 3 4)),.t (tI (cI p15 3 5)),.t (tI (cI p15 3 6)),.t (tI (cI p15 3 7)),.t (tI (cI p15 3 8)),.t (tI (cI p15 3 9)),.t (.bool (cB p15 3 10)),.sref 0 ((AL p15 3 11)+1) 0 ((AM p15 3 11)+1),.sref 1 (AL p15 3 12) (AP p15 3 12) (AM p15 3 12),.sref 2 ((AL p15 3 13)+1) 0 ((AM p15 3 13)+1)]])) none) none) none) none) none) none) none) none) none) none) none) none) none) none) none) none) (AI (fun (p20:List AV×Heap) (again21:_→Option (List Tree))=>JZ n a0 a1 a3 a6 a4 a7 a5 p20 again21) n ([.t (tI 0)],[.row false (AO p15 0) 1 (oEs p15 0),.row false (AO p15 1) 1 (oEs p15 1),.row false (AO p15 2) 1 (oEs p15 2),.box [.t (.sl 1 (cL p15 3 0)),.t (.sl 7 (cL p15 3 1)),.t (.sl 4 (cL p15 3 2)),.t (.sl 5 (cL p15 3 3)),.t (tI (cI p15 3 4)),.t (tI (cI p15 3 5)),.t (tI (cI p15 3 6)),.t (tI (cI p15 3 7)),.t (tI (cI p15 3 8)),.t (tI (cI p15 3 9)),.t (.bool (cB p15 3 10)),.sref 0 (AL p15 3 11) (AP p15 3 11) (AM p15 3 11),.sref 1 (AL p15 3 12) (AP p15 3 12) (AM p15 3 12),.sref 2 (AL p15 3 13) (AP p15 3 13) (AM p15 3 13)]]))
noncomputable def Qz (n:Nat) (a1:List (List Tree)) (a0:List (List Tree)) (a2:List (List Tree)) (a6:Int) (a3:List (List Tree)) (a4:Int) (a7:Int) (a5:Int) (a8:Int) (a9:Int) (a10:Bool) (p11:List AV×Heap):Option (List Tree):=cnd (vB p11 0=true) (some [.sl 4 [],tI 1]) (AI (fun (p15:List AV×Heap) (again16:_→Option (List Tree))=>JY n a1 a0 a2 a6 a3 a4 a7 a5 p15 again16) n ([.t (tI 0)],[.row false 0 1 [],.row false 0 1 [],.row false 0 1 [],.box [.t (.sl 1 a0),.t (.sl 7 a1),.t (.sl 4 a2),.t (.sl 5 a3),.t (tI a4),.t (tI a5),.t (tI a6),.t (tI a7),.t (tI a8),.t (tI a9),.t (.bool a10),.sref 0 0 0 0,.sref 1 0 0 0,.sref 2 0 0 0]]))
theorem e133 (n:Nat) (a0:List (List Tree)) (a1:List (List Tree)) (a2:List (List Tree)) (a3:List (List Tree)) (a4:Int) (a5:Int) (a6:Int) (a7:Int) (a8:Int) (a9:Int) (a10:Bool):AK C (n+1) 133 [.sl 1 a0,.sl 7 a1,.sl 4 a2,.sl 5 a3,tI a4,tI a5,tI a6,tI a7,tI a8,tI a9,.bool a10]=join (fun (p11:List AV×Heap)=>Qz n a1 a0 a2 a6 a3 a4 a7 a5 a8 a9 a10 p11) fun (again12:_→Option (List Tree))=>Option.bind (AK C n 17 [.sl 1 a0,.sl 7 a1,.sl 4 a2,.sl 5 a3]) fun y13=>cnd (length y13=1) (cnd (okI y13 0) (cnd (((gI y13 0) != 0)=true) (again12 ([.t (.bool true)],[])) (Option.bind (AK C n 71 [.sl 1 a0,.sl 7 a1,tI a4,tI a5,tI a6,tI a7,tI a8,tI a9,.bool a10]) fun y14=>cnd (length y14=1) (cnd (okI y14 0) (again12 ([.t (.bool ((gI y14 0) != 0))],[])) none) none)) none) none:=by kernel_rfl
end Ab
set_option maxRecDepth 100000
namespace Ab
open Go Go.Proofs
theorem e17 (n:Nat) (a0:List (List Tree)) (a1:List (List Tree)) (a2:List (List Tree)) (a3:List (List Tree)):AK C (n+1) 17 [Tree.sl (1:Nat) a0,Tree.sl (7:Nat) a1,Tree.sl (4:Nat) a2,Tree.sl (5:Nat) a3]=
 Option.bind (AK C n (41:Nat) [Tree.sl (1:Nat) a0,Tree.sl (7:Nat) a1]) fun y4=>cnd (length y4=(1:Nat)) (cnd (okI y4 0) (cnd (((gI y4 0) != (0:Int))=true) (some [tI (gI y4 0)])
 (Option.bind (AK C n (13:Nat) [Tree.sl (1:Nat) a0,Tree.sl (7:Nat) a1,Tree.sl (4:Nat) a2]) fun y5=>cnd (length y5=(1:Nat)) (cnd (okI y5 0) (cnd (((gI y5 0) != (0:Int))=true) (some [tI
 (gI y5 0)]) (Option.bind (AK C n (48:Nat) [Tree.sl (1:Nat) a0,Tree.sl (7:Nat) a1,Tree.sl (5:Nat) a3]) fun y6=>cnd (length y6=(1:Nat)) (cnd (okI y6 0) (some [tI (gI y6 0)]) none) none))
 none) none)) none) none:=by kernel_rfl
theorem e24 (n:Nat) (a0:List (List Tree)) (a1:List (List Tree)) (a2:List (List Tree)) (a3:List (List Tree)):AK C (n+1) 24 [Tree.sl (1:Nat) a0,Tree.sl (7:Nat) a1,Tree.sl (4:Nat) a2,Tree.sl (5:Nat) a3]=
 Option.bind (AK C n (15:Nat) [Tree.sl (1:Nat) a0,Tree.sl (7:Nat) a1]) fun y4=>cnd (length y4=(1:Nat)) (cnd (okI y4 0) (cnd (((gI y4 0) != (0:Int))=true) (some [tI (gI y4 0)])
 (Option.bind (AK C n (57:Nat) [Tree.sl (1:Nat) a0,Tree.sl (7:Nat) a1,Tree.sl (4:Nat) a2]) fun y5=>cnd (length y5=(1:Nat)) (cnd (okI y5 0) (cnd (((gI y5 0) != (0:Int))=true) (some [tI
 (gI y5 0)]) (Option.bind (AK C n (58:Nat) [Tree.sl (1:Nat) a0,Tree.sl (7:Nat) a1,Tree.sl (5:Nat) a3]) fun y6=>cnd (length y6=(1:Nat)) (cnd (okI y6 0) (some [tI (gI y6 0)]) none) none))
 none) none)) none) none:=by kernel_rfl
theorem e71 (n:Nat) (a0:List (List Tree)) (a1:List (List Tree)) (a2:Int) (a3:Int) (a4:Int) (a5:Int) (a6:Int) (a7:Int) (a8:Bool):AK C (n+1) 71 [Tree.sl (1:Nat) a0,Tree.sl (7:Nat) a1,tI a2,tI a3,tI a4,tI a5,tI a6,tI a7,Tree.bool a8]=
 Option.bind (AK C n (41:Nat) [Tree.sl (1:Nat) a0,Tree.sl (7:Nat) a1]) fun y9=>cnd (length y9=(1:Nat)) (cnd (okI y9 0) (cnd (((gI y9 0) != (0:Int))=true) (some [tI (1:Int)]) (cnd (decide
 (a2<(0:Int))=true) (some [tI (2:Int)]) (cnd (decide (a2≥((length a0:Nat):Int))=true) (some [tI (2:Int)]) (cnd (decide (a3<(0:Int))=true) (some [tI (2:Int)]) (cnd (decide (a3 ≥
 ((length a0:Nat):Int))=true) (some [tI (2:Int)]) (cnd ((a2==a3)=true) (some [tI (10:Int)]) (cnd (decide (a4<(1:Int))=true) (some [tI (2:Int)]) (cnd (decide (a4>(65536:Int))=true)
 (some [tI (2:Int)]) (cnd (decide (a5<(0:Int))=true) (some [tI (2:Int)]) (cnd (decide (a5>a6)=true) (some [tI (2:Int)]) (cnd (decide (a6>(1099511627776:Int))=true) (some [tI (2:Int)]) (cnd
 (decide (a7<(0:Int))=true) (some [tI (8:Int)]) (cnd (decide (a7>(2:Int))=true) (some [tI (8:Int)]) (some [tI (0:Int)])))))))))))))) none) none:=by kernel_rfl
theorem e25 (n:Nat) (a0:List (List Tree)) (a1:List (List Tree)) (a2:Int) (a3:Int) (a4:Int) (a5:Int) (a6:Int) (a7:Int) (a8:Bool):AK C (n+1) 25 [Tree.sl (1:Nat) a0,Tree.sl (7:Nat) a1,tI a2,tI a3,tI a4,tI a5,tI a6,tI a7,Tree.bool a8]=
 Option.bind (AK C n (15:Nat) [Tree.sl (1:Nat) a0,Tree.sl (7:Nat) a1]) fun y9=>cnd (length y9=(1:Nat)) (cnd (okI y9 0) (cnd (((gI y9 0) != (0:Int))=true) (some [tI (1:Int)]) (cnd (decide
 (a2<(0:Int))=true) (some [tI (2:Int)]) (cnd (decide (a2≥((length a0:Nat):Int))=true) (some [tI (2:Int)]) (cnd (decide (a3<(0:Int))=true) (some [tI (2:Int)]) (cnd (decide (a3 ≥
 ((length a0:Nat):Int))=true) (some [tI (2:Int)]) (cnd ((a2==a3)=true) (some [tI (10:Int)]) (cnd (decide (a4<(1:Int))=true) (some [tI (2:Int)]) (cnd (decide (a4>(65536:Int))=true)
 (some [tI (2:Int)]) (cnd (decide (a5<(0:Int))=true) (some [tI (2:Int)]) (cnd (decide (a5>a6)=true) (some [tI (2:Int)]) (cnd (decide (a6>(1099511627776:Int))=true) (some [tI (2:Int)]) (cnd
 (decide (a7<(0:Int))=true) (some [tI (8:Int)]) (cnd (decide (a7>(2:Int))=true) (some [tI (8:Int)]) (some [tI (0:Int)])))))))))))))) none) none:=by kernel_rfl
theorem e6 (n:Nat) (a0:List (List Tree)) (a1:List (List Tree)) (a2:List (List Tree)) (a3:List (List Tree)) (a4:Int) (a5:Int) (a6:Int) (a7:Int) (a8:Int) (a9:Int) (a10:Bool):AK C (n+1) 6 [Tree.sl (1:Nat) a0,Tree.sl (7:Nat) a1,Tree.sl (4:Nat) a2,Tree.sl (5:Nat) a3,tI a4,tI a5,tI a6,tI a7,tI a8,tI a9,Tree.bool a10]=
 Option.bind (AK C n (23:Nat) [Tree.sl (1:Nat) a0,Tree.sl (7:Nat) a1,Tree.sl (4:Nat) a2,Tree.sl (5:Nat) a3]) fun y11=>cnd (length y11=(1:Nat)) (cnd (okB y11 0) (cnd ((!(gB y11 0))=
 true) (Option.bind (AK C n (24:Nat) [Tree.sl (1:Nat) a0,Tree.sl (7:Nat) a1,Tree.sl (4:Nat) a2,Tree.sl (5:Nat) a3]) fun y12=>cnd (length y12=(1:Nat)) (cnd (okI y12 0) (cnd (((gI y12 0)
 == (0:Int))=true) (Option.bind (AK C n (25:Nat) [Tree.sl (1:Nat) a0,Tree.sl (7:Nat) a1,tI a4,tI a5,tI a6,tI a7,tI a8,tI a9,Tree.bool a10]) fun y13=>cnd (length y13=(1:Nat)) (cnd
 (okI y13 0) (some [Tree.bool ((gI y13 0)==(0:Int))]) none) none) (some [Tree.bool false])) none) none) (some [Tree.bool false])) none) none:=by kernel_rfl
theorem e23 (n:Nat) (a0:List (List Tree)) (a1:List (List Tree)) (a2:List (List Tree)) (a3:List (List Tree)):AK C (n+1) 23 [Tree.sl (1:Nat) a0,Tree.sl (7:Nat) a1,Tree.sl (4:Nat) a2,Tree.sl (5:Nat) a3]=
 Option.bind (AK C n (56:Nat) [Tree.sl (1:Nat) a0,Tree.sl (7:Nat) a1]) fun y4=>cnd (length y4=(1:Nat)) (cnd (okB y4 0) (cnd (gB y4 0=true) (some [Tree.bool true]) (cnd (decide
 (((length a2:Nat):Int)>(30:Int))=true) (some [Tree.bool true]) (some [Tree.bool (decide (((length a3:Nat):Int)>(30:Int)))]))) none) none:=by kernel_rfl
theorem e157 (n:Nat) (a0:Int) (a1:Int) (a2:Int) (a3:Int) (a4:Int) (a5:Int) (a6:Int) (a7:Int) (a8:Int):AK C (n+1) 157 [tI a0,tI a1,tI a2,tI a3,tI a4,tI a5,tI a6,tI a7,tI a8]=
 Option.bind (AK C n (143:Nat) [tI a0,tI a1,tI a2,tI a3,tI a4,tI a5,tI a6,tI a8]) fun y9=>cnd (length y9=(1:Nat)) (cnd (okI y9 0) (cnd (((gI y9 0)==(0:Int))=true) (Option.bind
 (AK C n (197:Nat) [tI a0,tI a1,tI a2,tI a3,tI a4,tI a5,tI a6,tI a7,tI a8]) fun y10=>cnd (length y10=(1:Nat)) (cnd (okB y10 0) (some [Tree.bool (gB y10 0)]) none) none) (some
 [Tree.bool false])) none) none:=by kernel_rfl
theorem e158 (n:Nat) (a0:List (List Tree)) (a1:List (List Tree)) (a2:Int) (a3:Int) (a4:Int) (a5:Int) (a6:Int) (a7:Int) (a8:Bool) (a9:Int) (a10:Int):AK C (n+1) 158 [Tree.sl (1:Nat) a0,Tree.sl (7:Nat) a1,tI a2,tI a3,tI a4,tI a5,tI a6,tI a7,Tree.bool a8,tI a9,tI a10]=
 cnd ((7:Nat)=(7:Nat)∧(0:Int)≤a9) (Option.bind a1[toNat a9]? fun y11=>cnd (okI y11 0) (cnd (okI y11 1) (cnd (okI y11 2) (cnd (okI y11 3) (cnd (okI y11 4) (cnd (okI y11 5) (cnd (okI y11 6)
 (Option.bind (AK C n (84:Nat) [tI (gI y11 0),tI (gI y11 1),tI (gI y11 2),tI (gI y11 3),tI (gI y11 4),tI (gI y11 5),tI (gI y11 6),tI a4]) fun y12=>cnd (length y12=(2:Nat)) (cnd (okI
 y12 0) (cnd (okI y12 1) (some [tI a9,tI a10,tI (w64 (a10+(gI y12 0))),tI (w64 ((w64 (a10+(gI y12 0)))+(gI y11 5)))]) none) none) none) none) none) none) none) none) none) none) none:=by kernel_rfl
theorem e100 (n:Nat) (a0:List (List Tree)) (a1:List (List Tree)) (a2:Int) (a3:Int) (a4:Int) (a5:Int) (a6:Int) (a7:Int) (a8:Bool) (a9:Int) (a10:Int) (a11:Int) (a12:Int) (a13:Int) (a14:Int):AK C (n+1) 100 [Tree.sl (1:Nat) a0,Tree.sl (7:Nat) a1,tI a2,tI a3,tI a4,tI a5,tI a6,tI a7,Tree.bool a8,tI a9,tI a10,tI a11,tI a12,tI a13,tI a14]=
 cnd (decide (a11<(0:Int))=true) (some [tI (2:Int)]) (cnd (decide (a11≥((length a1:Nat):Int))=true) (some [tI (2:Int)]) (cnd ((7:Nat)=(7:Nat)∧(0:Int)≤a11) (Option.bind a1[toNat
 a11]? fun y15=>cnd (okI y15 0) (cnd (okI y15 1) (cnd (okI y15 2) (cnd (okI y15 3) (cnd (okI y15 4) (cnd (okI y15 5) (cnd (okI y15 6) (cnd (((gI y15 0) != a9)=true) (some [tI (10:Int)]) (cnd ((a9
 == a3)=true) (some [tI (10:Int)]) (cnd (decide (a12<a10)=true) (some [tI (9:Int)]) (Option.bind (AK C n (157:Nat) [tI (gI y15 0),tI (gI y15 1),tI (gI y15 2),tI (gI y15 3),tI (gI y15 4),
 tI (gI y15 5),tI (gI y15 6),tI a12,tI a4]) fun y16=>cnd (length y16=(1:Nat)) (cnd (okB y16 0) (cnd ((!(gB y16 0))=true) (some [tI (16:Int)]) (Option.bind (AK C n (158:Nat) [Tree.sl
 (1:Nat) a0,Tree.sl (7:Nat) a1,tI a2,tI a3,tI a4,tI a5,tI a6,tI a7,Tree.bool a8,tI a11,tI a12]) fun y17=>cnd (length y17=(4:Nat)) (cnd (okI y17 0) (cnd (okI y17 1) (cnd (okI y17 2)
 (cnd (okI y17 3) (cnd ((!((((a11==(gI y17 0))&&(a12==(gI y17 1)))&&(a13==(gI y17 2)))&&(a14==(gI y17 3))))=true) (some [tI (1:Int)]) (some [tI (0:Int)])) none) none) none) none) none))
 none) none)))) none) none) none) none) none) none) none) none)):=by kernel_rfl
theorem e49 (n:Nat) (a0:List (List Tree)) (a1:List (List Tree)) (a2:Int) (a3:Int) (a4:Int) (a5:Int) (a6:Int) (a7:Int) (a8:Bool) (a9:List (List Tree)):AK C (n+1) 49 [Tree.sl (1:Nat) a0,Tree.sl (7:Nat) a1,tI a2,tI a3,tI a4,tI a5,tI a6,tI a7,Tree.bool a8,Tree.sl (4:Nat) a9]=
 Option.bind (AK C n (71:Nat) [Tree.sl (1:Nat) a0,Tree.sl (7:Nat) a1,tI a2,tI a3,tI a4,tI a5,tI a6,tI a7,Tree.bool a8]) fun y10=>cnd (length y10=(1:Nat)) (cnd (okI y10 0) (cnd (((gI
 y10 0) != (0:Int))=true) (some [tI (1:Int)]) (cnd ((((length a9:Nat):Int)==(0:Int))=true) (some [tI (20:Int)]) (cnd (decide (((length a9:Nat):Int)>(1000:Int))=true) (some [tI
 (4:Int)]) (AI (fun (p11:List AV×Heap) (again12:_→Option (List Tree))=>cnd (decide (vI p11 0<((length a9:Nat):Int))=true) (cnd ((4:Nat)=(4:Nat)∧(0:Int)≤vI p11 0)
 (Option.bind a9[toNat (vI p11 0)]? fun y13=>cnd (okI y13 0) (cnd (okI y13 1) (cnd (okI y13 2) (cnd (okI y13 3) (Option.bind (AK C n (100:Nat) [Tree.sl (1:Nat) a0,Tree.sl (7:Nat) a1,tI a2,
 tI a3,tI a4,tI a5,tI a6,tI a7,Tree.bool a8,tI (cI p11 2 0),tI (cI p11 2 1),tI (gI y13 0),tI (gI y13 1),tI (gI y13 2),tI (gI y13 3)]) fun y14=>cnd (length y14=(1:Nat)) (cnd (okI y14
 0) (cnd (((gI y14 0) != (0:Int))=true) (some [tI (gI y14 0)]) (cnd (decide (gI y13 0<(0:Int))=true) (cnd ((4:Nat)=(4:Nat)∧(0:Int)≤w64 (((length a9:Nat):Int)-(1:Int))) (Option.bind
 a9[toNat (w64 (((length a9:Nat):Int)-(1:Int)))]? fun y15=>cnd (okI y15 0) (cnd (okI y15 1) (cnd (okI y15 2) (cnd (okI y15 3) (cnd ((7:Nat)=(7:Nat)∧(0:Int)≤gI y15 0) (Option.bind
 a1[toNat (gI y15 0)]? fun y16=>cnd (okI y16 1) (cnd (((gI y16 1) != a3)=true) (some [tI (18:Int)]) (cnd (decide (gI y15 3>a6)=true) (some [tI (16:Int)]) (some [tI (0:Int)]))) none) none)
 none) none) none) none) none) (cnd (decide (gI y13 0≥((length a1:Nat):Int))=true) (cnd ((4:Nat)=(4:Nat)∧(0:Int)≤w64 (((length a9:Nat):Int)-(1:Int))) (Option.bind a9[toNat
 (w64 (((length a9:Nat):Int)-(1:Int)))]? fun y17=>cnd (okI y17 0) (cnd (okI y17 1) (cnd (okI y17 2) (cnd (okI y17 3) (cnd ((7:Nat)=(7:Nat)∧(0:Int)≤gI y17 0) (Option.bind a1[toNat (gI
 y17 0)]? fun y18=>cnd (okI y18 1) (cnd (((gI y18 1) != a3)=true) (some [tI (18:Int)]) (cnd (decide (gI y17 3>a6)=true) (some [tI (16:Int)]) (some [tI (0:Int)]))) none) none) none) none) none)
 none) none) (cnd ((7:Nat)=(7:Nat)∧(0:Int)≤gI y13 0) (Option.bind a1[toNat (gI y13 0)]? fun y19=>cnd (okI y19 1) (again12 ([AV.t (tI (w64 ((vI p11 0)+(1:Int))))],[AE.box [AV.t (tI (cI
 p11 0 0))],AE.box [],AE.box [AV.t (tI (gI y19 1)),AV.t (tI (gI y13 3))]])) none) none)))) none) none) none) none) none) none) none) (cnd ((4:Nat)=(4:Nat)∧(0:Int)≤w64 (((length
 a9:Nat):Int)-(1:Int))) (Option.bind a9[toNat (w64 (((length a9:Nat):Int)-(1:Int)))]? fun y20=>cnd (okI y20 0) (cnd (okI y20 1) (cnd (okI y20 2) (cnd (okI y20 3) (cnd ((7:Nat)=(7:Nat)
 ∧(0:Int)≤gI y20 0) (Option.bind a1[toNat (gI y20 0)]? fun y21=>cnd (okI y21 1) (cnd (((gI y21 1) != a3)=true) (some [tI (18:Int)]) (cnd (decide (gI y20 3>a6)=true) (some [tI (16:Int)])
 (some [tI (0:Int)]))) none) none) none) none) none) none) none)) n ([AV.t (tI (0:Int))],[AE.box [AV.t (tI (0:Int))],AE.box [],AE.box [AV.t (tI a2),AV.t (tI a5)]]))))) none) none:=by kernel_rfl
theorem e101 (n:Nat) (a0:List (List Tree)) (a1:List (List Tree)) (a2:Int) (a3:Int) (a4:Int) (a5:Int) (a6:Int) (a7:Int) (a8:Bool) (a9:Int) (a10:Int) (a11:Int) (a12:Int):AK C (n+1) 101 [Tree.sl (1:Nat) a0,Tree.sl (7:Nat) a1,tI a2,tI a3,tI a4,tI a5,tI a6,tI a7,Tree.bool a8,tI a9,tI a10,tI a11,tI a12]=
 cnd (a8=true) (cnd ((7:Nat)=(7:Nat)∧(0:Int)≤a9) (Option.bind a1[toNat a9]? fun y13=>cnd (okI y13 5) (some [tI (w64 (a11+(w64 ((2:Int)*(gI y13 5)))))]) none) none) (some [tI a11]):=by kernel_rfl
theorem e50 (n:Nat) (a0:List (List Tree)) (a1:List (List Tree)) (a2:Int) (a3:Int) (a4:Int) (a5:Int) (a6:Int) (a7:Int) (a8:Bool) (a9:List (List Tree)) (a10:Int):AK C (n+1) 50 [Tree.sl (1:Nat) a0,Tree.sl (7:Nat) a1,tI a2,tI a3,tI a4,tI a5,tI a6,tI a7,Tree.bool a8,Tree.sl (4:Nat) a9,tI a10]=
 AI (fun (p11:List AV×Heap) (again12:_→Option (List Tree))=>cnd (decide (vI p11 0<((length a9:Nat):Int))=true) (cnd ((4:Nat)=(4:Nat)∧(0:Int)≤vI p11 0) (Option.bind
 a9[toNat (vI p11 0)]? fun y13=>cnd (okI y13 0) (cnd (okI y13 1) (cnd (okI y13 2) (cnd (okI y13 3) (Option.bind (AK C n (101:Nat) [Tree.sl (1:Nat) a0,Tree.sl (7:Nat) a1,tI a2,tI a3,tI a4,
 tI a5,tI a6,tI a7,Tree.bool a8,tI (gI y13 0),tI (gI y13 1),tI (gI y13 2),tI (gI y13 3)]) fun y14=>cnd (length y14=(1:Nat)) (cnd (okI y14 0) (cnd (AO p11 0=AL p11 1 0∧((5:Nat)=
 (5:Nat)∨(5:Nat)=(0:Nat))∧(AP p11 1 0)+(AM p11 1 0)≤length (oEs p11 0)∧(AM p11 1 0)+(1:Nat)≤(1073741824:Nat)) (cnd (decide (gI y13 0<(0:Int))=true) (cnd ((AL p11 1 0) +
 (1:Nat)=(AL p11 1 0)+(1:Nat)∧(5:Nat)=(5:Nat)∧(0:Nat)+((AM p11 1 0)+(1:Nat))≤length ((take (AM p11 1 0) (drop (AP p11 1 0) (oEs p11 0)))++[[tI (cI p11 4 0),tI
 (cI p11 2 0),tI (gI y14 0),tI a4,tI a10]])∧(AM p11 1 0)+(1:Nat)≤(1073741824:Nat)∧Ax (5:Nat) (take ((AM p11 1 0)+(1:Nat)) ((take (AM p11 1 0) (drop (AP p11 1 0)
 (oEs p11 0)))++[[tI (cI p11 4 0),tI (cI p11 2 0),tI (gI y14 0),tI a4,tI a10]]))=true) (cnd ((false=true∨false=false)∧(AL p11 1 0)+(1:Nat)=(AL p11 1 0)+(1:Nat)∧((5:Nat)=
 (5:Nat)∨(5:Nat)=(0:Nat))) (some [Tree.sl (5:Nat) (take ((AM p11 1 0)+(1:Nat)) (A3 ((take (AM p11 1 0) (drop (AP p11 1 0) (oEs p11 0)))++[[tI (cI p11 4 0),tI (cI p11 2
 0),tI (gI y14 0),tI a4,tI a10]]) (0:Nat) ((GV (BP [0,1,2,4,3])) (take ((AM p11 1 0)+(1:Nat)) ((take (AM p11 1 0) (drop (AP p11 1 0) (oEs p11 0)))++[[tI (cI p11 4
 0),tI (cI p11 2 0),tI (gI y14 0),tI a4,tI a10]])))))]) none) none) (cnd (decide (gI y13 0≥((length a1:Nat):Int))=true) (cnd ((AL p11 1 0)+(1:Nat)=(AL p11 1 0)+(1:Nat)∧(5:Nat)
 = (5:Nat)∧(0:Nat)+((AM p11 1 0)+(1:Nat))≤length ((take (AM p11 1 0) (drop (AP p11 1 0) (oEs p11 0)))++[[tI (cI p11 4 0),tI (cI p11 2 0),tI (gI y14 0),tI a4,tI a10]])
 ∧(AM p11 1 0)+(1:Nat)≤(1073741824:Nat)∧Ax (5:Nat) (take ((AM p11 1 0)+(1:Nat)) ((take (AM p11 1 0) (drop (AP p11 1 0) (oEs p11 0)))++[[tI (cI p11 4 0),tI (cI
 p11 2 0),tI (gI y14 0),tI a4,tI a10]]))=true) (cnd ((false=true∨false=false)∧(AL p11 1 0)+(1:Nat)=(AL p11 1 0)+(1:Nat)∧((5:Nat)=(5:Nat)∨(5:Nat)=(0:Nat))) (some [Tree.sl
 (5:Nat) (take ((AM p11 1 0)+(1:Nat)) (A3 ((take (AM p11 1 0) (drop (AP p11 1 0) (oEs p11 0)))++[[tI (cI p11 4 0),tI (cI p11 2 0),tI (gI y14 0),tI a4,tI a10]]) (0:Nat)
 ((GV (BP [0,1,2,4,3])) (take ((AM p11 1 0)+(1:Nat)) ((take (AM p11 1 0) (drop (AP p11 1 0) (oEs p11 0)))++[[tI (cI p11 4 0),tI (cI p11 2 0),tI (gI y14 0),tI a4,tI
 a10]])))))]) none) none) (cnd ((7:Nat)=(7:Nat)∧(0:Int)≤gI y13 0) (Option.bind a1[toNat (gI y13 0)]? fun y15=>cnd (okI y15 1) (again12 ([AV.t (tI (w64 ((vI p11 0)+(1:Int))))],[AE.row
 false ((AL p11 1 0)+(1:Nat)) (5:Nat) ((take (AM p11 1 0) (drop (AP p11 1 0) (oEs p11 0)))++[[tI (cI p11 4 0),tI (cI p11 2 0),tI (gI y14 0),tI a4,tI a10]]),AE.box [AV.sref
 (0:Nat) ((AL p11 1 0)+(1:Nat)) (0:Nat) ((AM p11 1 0)+(1:Nat))],AE.box [AV.t (tI (gI y13 1))],AE.box [],AE.box [AV.t (tI (gI y15 1)),AV.t (tI (gI y13 3))]])) none) none))) none) none)
 none) none) none) none) none) none) (cnd (AO p11 0=AL p11 1 0∧(5:Nat)=(5:Nat)∧(AP p11 1 0)+(AM p11 1 0)≤length (oEs p11 0)∧AM p11 1 0≤(1073741824:Nat)∧Ax (5:Nat)
 (take (AM p11 1 0) (drop (AP p11 1 0) (oEs p11 0)))=true) (cnd ((false=true∨false=false)∧AL p11 1 0=AL p11 1 0∧((5:Nat)=(5:Nat)∨(5:Nat)=(0:Nat))) (some [Tree.sl
 (5:Nat) (take (AM p11 1 0) (drop (AP p11 1 0) (A3 (oEs p11 0) (AP p11 1 0) ((GV (BP [0,1,2,4,3])) (take (AM p11 1 0) (drop (AP p11 1 0) (oEs p11 0)))))))])
 none) none)) n ([AV.t (tI (0:Int))],[AE.row false (0:Nat) (5:Nat) [],AE.box [AV.sref (0:Nat) (0:Nat) (0:Nat) (0:Nat)],AE.box [AV.t (tI a5)],AE.box [],AE.box [AV.t (tI a2),AV.t (tI
 a5)]]):=by kernel_rfl
theorem e11 (n:Nat) (a0:List (List Tree)) (a1:Int):AK C (n+1) 11 [Tree.sl (4:Nat) a0,tI a1]=
 AI (fun (p2:List AV×Heap) (again3:_→Option (List Tree))=>cnd (decide (vI p2 1<((length a0:Nat):Int))=true) (cnd ((4:Nat)=(4:Nat)∧(0:Int)≤vI p2 1) (Option.bind
 a0[toNat (vI p2 1)]? fun y4=>cnd (okI y4 0) (cnd (okI y4 1) (cnd (okI y4 2) (cnd (okI y4 3) (cnd (AO p2 0=Bu p2 0∧((4:Nat)=(4:Nat)∨(4:Nat)=(0:Nat))∧(C8 p2 0)+(Av p2 0)≤
 length (oEs p2 0)∧(Av p2 0)+(1:Nat)≤(1073741824:Nat)) (again3 ([AV.sref (0:Nat) ((Bu p2 0)+(1:Nat)) (0:Nat) ((Av p2 0)+(1:Nat)),AV.t (tI (w64 ((vI p2 1)+(1:Int))))],[AE.row
 false ((Bu p2 0)+(1:Nat)) (4:Nat) ((take (Av p2 0) (drop (C8 p2 0) (oEs p2 0)))++[[tI (gI y4 0),tI (gI y4 1),tI (gI y4 2),tI a1]])])) none) none) none) none) none) none) (cnd
 (AO p2 0=Bu p2 0∧(4:Nat)=(4:Nat)∧(C8 p2 0)+(Av p2 0)≤length (oEs p2 0)∧Av p2 0≤(19:Nat)∧Ax (4:Nat) (take (Av p2 0) (drop (C8 p2 0) (oEs p2 0)))=
 true) (cnd ((false=true∨false=false)∧Bu p2 0=Bu p2 0∧((4:Nat)=(4:Nat)∨(4:Nat)=(0:Nat))) (some [Tree.sl (4:Nat) (take (Av p2 0) (drop (C8 p2 0) (A3 (oEs p2 0)
 (C8 p2 0) ((Of (BP [0,1])) (take (Av p2 0) (drop (C8 p2 0) (oEs p2 0)))))))]) none) none)) n ([AV.sref (0:Nat) (0:Nat) (0:Nat) (0:Nat),AV.t (tI (0:Int))],[AE.row false
 (0:Nat) (4:Nat) []]):=by kernel_rfl
theorem e18 (n:Nat) (a0:List (List Tree)) (a1:List (List Tree)) (a2:List (List Tree)) (a3:List (List Tree)) (a4:Int) (a5:Int) (a6:Int) (a7:Int) (a8:Int) (a9:Int) (a10:Bool) (a11:List (List Tree)):AK C (n+1) 18 [Tree.sl (1:Nat) a0,Tree.sl (7:Nat) a1,Tree.sl (4:Nat) a2,Tree.sl (5:Nat) a3,tI a4,tI a5,tI a6,tI a7,tI a8,tI a9,Tree.bool a10,Tree.sl (4:Nat) a11]=
 Option.bind (AK C n (17:Nat) [Tree.sl (1:Nat) a0,Tree.sl (7:Nat) a1,Tree.sl (4:Nat) a2,Tree.sl (5:Nat) a3]) fun y12=>cnd (length y12=(1:Nat)) (cnd (okI y12 0) (cnd (((gI y12 0) !=
 (0:Int))=true) (some [tI (1:Int)]) (Option.bind (AK C n (49:Nat) [Tree.sl (1:Nat) a0,Tree.sl (7:Nat) a1,tI a4,tI a5,tI a6,tI a7,tI a8,tI a9,Tree.bool a10,Tree.sl (4:Nat) a11]) fun y13=>
 cnd (length y13=(1:Nat)) (cnd (okI y13 0) (cnd (((gI y13 0) != (0:Int))=true) (some [tI (gI y13 0)]) (Option.bind (AK C n (50:Nat) [Tree.sl (1:Nat) a0,Tree.sl (7:Nat) a1,tI a4,tI a5,tI
 a6,tI a7,tI a8,tI a9,Tree.bool a10,Tree.sl (4:Nat) a11,tI (0:Int)]) fun y14=>cnd (length y14=(1:Nat)) (cnd (okL 5 y14 0) (cnd (decide (w64 (((length a2:Nat):Int)+((length
 a11:Nat):Int))>(512:Int))=true) (some [tI (4:Int)]) (cnd (decide (w64 (((length a3:Nat):Int)+((length (gL y14 0):Nat):Int))>(512:Int))=true) (some [tI (4:Int)]) (Option.bind (AK
 C n (11:Nat) [Tree.sl (4:Nat) a11,tI (0:Int)]) fun y15=>cnd (length y15=(1:Nat)) (cnd (okL 4 y15 0) (AI (fun (p16:List AV×Heap) (again17:_→Option (List Tree))=>cnd (decide
 (vI p16 1<((length (gL y15 0):Nat):Int))=true) (cnd ((4:Nat)=(4:Nat)∧(0:Int)≤vI p16 1) (Option.bind (gL y15 0)[toNat (vI p16 1)]? fun y18=>cnd (okI y18 0) (cnd (okI y18 1) (cnd
 (okI y18 2) (cnd (okI y18 3) (Option.bind (AK C n (12:Nat) [Tree.sl (1:Nat) a0,Tree.sl (7:Nat) a1,Tree.sl (4:Nat) (vL p16 0),tI (gI y18 0),tI (gI y18 1),tI (gI y18 2),tI (gI y18 3)]) fun y19
 =>cnd (length y19=(2:Nat)) (cnd (okL 4 y19 0) (cnd (okI y19 1) (cnd (((gI y19 1) != (0:Int))=true) (some [tI (14:Int)]) (again17 ([AV.t (Tree.sl (4:Nat) (gL y19 0)),AV.t (tI (w64 ((vI p16
 1)+(1:Int))))],[]))) none) none) none) none) none) none) none) none) (AI (fun (p20:List AV×Heap) (again21:_→Option (List Tree))=>cnd (decide (vI p20 1<((length (gL y14
 0):Nat):Int))=true) (cnd ((5:Nat)=(5:Nat)∧(0:Int)≤vI p20 1) (Option.bind (gL y14 0)[toNat (vI p20 1)]? fun y22=>cnd (okI y22 0) (cnd (okI y22 1) (cnd (okI y22 2) (cnd (okI y22 3) (cnd
 (okI y22 4) (Option.bind (AK C n (51:Nat) [Tree.sl (1:Nat) a0,Tree.sl (7:Nat) a1,Tree.sl (5:Nat) (vL p20 0),tI (gI y22 0),tI (gI y22 1),tI (gI y22 2),tI (gI y22 3),tI (gI y22 4)]) fun y23=>
 cnd (length y23=(2:Nat)) (cnd (okL 5 y23 0) (cnd (okI y23 1) (cnd (((gI y23 1) != (0:Int))=true) (some [tI (15:Int)]) (again21 ([AV.t (Tree.sl (5:Nat) (gL y23 0)),AV.t (tI (w64 ((vI p20 1) +
 (1:Int))))],[]))) none) none) none) none) none) none) none) none) none) (some [tI (0:Int)])) n ([AV.t (Tree.sl (5:Nat) a3),AV.t (tI (0:Int))],[]))) n ([AV.t (Tree.sl (4:Nat) a2),AV.t (tI
 (0:Int))],[])) none) none))) none) none)) none) none)) none) none:=by kernel_rfl
theorem e88 (n:Nat) (a0:Int) (a1:Int) (a2:Int) (a3:Int) (a4:Int) (a5:Int) (a6:Int) (a7:Int):AK C (n+1) 88 [tI a0,tI a1,tI a2,tI a3,tI a4,tI a5,tI a6,tI a7]=
 Option.bind (AK C n (35:Nat) [tI a3,tI a7]) fun y8=>cnd (length y8=(1:Nat)) (cnd (okI y8 0) (Option.bind (AK C n (35:Nat) [tI a0,tI a4]) fun y9=>cnd (length y9=(1:Nat)) (cnd
 (okI y9 0) (Option.bind (AK C n (35:Nat) [tI a1,tI a5]) fun y10=>cnd (length y10=(1:Nat)) (cnd (okI y10 0) (Option.bind (AK C n (34:Nat) [Tree.sl (1:Nat) [[tI (gI y8 0)],[tI (gI y9
 0)],[tI (gI y10 0)]]]) fun y11=>cnd (length y11=(1:Nat)) (cnd (okI y11 0) (some [tI (gI y11 0)]) none) none) none) none) none) none) none) none:=by kernel_rfl
theorem e91 (n:Nat) (a0:Int) (a1:Int) (a2:Int) (a3:Int) (a4:Int) (a5:Int) (a6:Int) (a7:Int):AK C (n+1) 91 [tI a0,tI a1,tI a2,tI a3,tI a4,tI a5,tI a6,tI a7]=
 cnd ((a0==a4)=true) (some [Tree.bool (a1==a5)]) (some [Tree.bool false]):=by kernel_rfl
end Ab
set_option maxRecDepth 100000
namespace Ab
open Go Go.Proofs
theorem e48 (n:Nat) (a0:List (List Tree)) (a1:List (List Tree)) (a2:List (List Tree)):AK C (n+1) 48 [Tree.sl (1:Nat) a0,Tree.sl (7:Nat) a1,Tree.sl (5:Nat) a2]=
 Option.bind (AK C n (41:Nat) [Tree.sl (1:Nat) a0,Tree.sl (7:Nat) a1]) fun y3=>cnd (length y3=(1:Nat)) (cnd (okI y3 0) (cnd (((gI y3 0) != (0:Int))=true) (some [tI (1:Int)]) (cnd (decide
 (((length a2:Nat):Int)>(512:Int))=true) (some [tI (4:Int)]) (AI (fun (p4:List AV×Heap) (again5:_→Option (List Tree))=>cnd (decide (vI p4 0<((length a2:Nat):Int))=
 true) (cnd ((5:Nat)=(5:Nat)∧(0:Int)≤vI p4 0) (Option.bind a2[toNat (vI p4 0)]? fun y6=>cnd (okI y6 0) (cnd (okI y6 1) (cnd (okI y6 2) (cnd (okI y6 3) (cnd (okI y6 4) (Option.bind (AK C
 n (95:Nat) [Tree.sl (1:Nat) a0,Tree.sl (7:Nat) a1,tI (gI y6 0),tI (gI y6 1),tI (gI y6 2),tI (gI y6 3),tI (gI y6 4)]) fun y7=>cnd (length y7=(1:Nat)) (cnd (okB y7 0) (cnd ((!(gB y7 0))=
 true) (some [tI (2:Int)]) (cnd (decide (vI p4 0>(0:Int))=true) (cnd ((5:Nat)=(5:Nat)∧(0:Int)≤w64 ((vI p4 0)-(1:Int))) (Option.bind a2[toNat (w64 ((vI p4 0)-(1:Int)))]? fun y8=>cnd
 (okI y8 0) (cnd (okI y8 1) (cnd (okI y8 2) (cnd (okI y8 3) (cnd (okI y8 4) (Option.bind (AK C n (96:Nat) [tI (gI y8 0),tI (gI y8 1),tI (gI y8 2),tI (gI y8 3),tI (gI y8 4),tI (gI y6 0),tI (gI
 y6 1),tI (gI y6 2),tI (gI y6 3),tI (gI y6 4)]) fun y9=>cnd (length y9=(1:Nat)) (cnd (okI y9 0) (cnd (decide (gI y9 0>(0:Int))=true) (some [tI (9:Int)]) (again5 ([AV.t (tI (w64 ((vI p4
 0)+(1:Int))))],[]))) none) none) none) none) none) none) none) none) (again5 ([AV.t (tI (w64 ((vI p4 0)+(1:Int))))],[])))) none) none) none) none) none) none) none) none) (AI (fun (p10 :
 List AV×Heap) (again11:_→Option (List Tree))=>cnd (decide (vI p10 0<((length a0:Nat):Int))=true) (cnd ((1:Nat)=(1:Nat)∧(0:Int)≤vI p10 0) (Option.bind a0[toNat (vI p10 0)]?
 fun y12=>cnd (okI y12 0) (Option.bind (AK C n (98:Nat) [Tree.sl (5:Nat) a2,tI (vI p10 0)]) fun y13=>cnd (length y13=(1:Nat)) (cnd (okL 2 y13 0) (Option.bind (AK C n (97:Nat) [Tree.sl
 (2:Nat) (gL y13 0)]) fun y14=>cnd (length y14=(1:Nat)) (cnd (okI y14 0) (cnd (decide (gI y14 0>gI y12 0)=true) (some [tI (15:Int)]) (again11 ([AV.t (tI (w64 ((vI p10 0)+(1:Int))))],
 []))) none) none) none) none) none) none) (some [tI (0:Int)])) n ([AV.t (tI (0:Int))],[]))) n ([AV.t (tI (0:Int))],[])))) none) none:=by kernel_rfl
theorem e51 (n:Nat) (a0:List (List Tree)) (a1:List (List Tree)) (a2:List (List Tree)) (a3:Int) (a4:Int) (a5:Int) (a6:Int) (a7:Int):AK C (n+1) 51 [Tree.sl (1:Nat) a0,Tree.sl (7:Nat) a1,Tree.sl (5:Nat) a2,tI a3,tI a4,tI a5,tI a6,tI a7]=
 Option.bind (AK C n (48:Nat) [Tree.sl (1:Nat) a0,Tree.sl (7:Nat) a1,Tree.sl (5:Nat) a2]) fun y8=>cnd (length y8=(1:Nat)) (cnd (okI y8 0) (cnd (((gI y8 0) != (0:Int))=true) (some
 [Tree.sl (5:Nat) [],tI (1:Int)]) (Option.bind (AK C n (95:Nat) [Tree.sl (1:Nat) a0,Tree.sl (7:Nat) a1,tI a3,tI a4,tI a5,tI a6,tI a7]) fun y9=>cnd (length y9=(1:Nat)) (cnd (okB y9 0)
 (cnd ((!(gB y9 0))=true) (some [Tree.sl (5:Nat) [],tI (2:Int)]) (cnd ((((length a2:Nat):Int)==(512:Int))=true) (some [Tree.sl (5:Nat) [],tI (4:Int)]) (AI (fun (p10:List AV×Heap)
 (again11:_→Option (List Tree))=>cnd (decide (vI p10 0<vI p10 1)=true) (cnd ((5:Nat)=(5:Nat)∧(0:Int)≤w64 (Kd IntKind.u64 (IntKind.wrap IntKind.u64 (w64 ((vI p10 0)+(vI p10 1))))
 (1:Int))) (Option.bind a2[toNat (w64 (Kd IntKind.u64 (IntKind.wrap IntKind.u64 (w64 ((vI p10 0)+(vI p10 1)))) (1:Int)))]? fun y12=>cnd (okI y12 0) (cnd (okI y12 1) (cnd (okI y12 2) (cnd (okI
 y12 3) (cnd (okI y12 4) (Option.bind (AK C n (96:Nat) [tI (gI y12 0),tI (gI y12 1),tI (gI y12 2),tI (gI y12 3),tI (gI y12 4),tI a3,tI a4,tI a5,tI a6,tI a7]) fun y13=>cnd (length y13
 = (1:Nat)) (cnd (okI y13 0) (cnd (decide (gI y13 0<(0:Int))=true) (again11 ([AV.t (tI (w64 ((w64 (Kd IntKind.u64 (IntKind.wrap IntKind.u64 (w64 ((vI p10 0)+(vI p10 1)))) (1:Int))) +
 (1:Int)))),AV.t (tI (vI p10 1))],[])) (again11 ([AV.t (tI (vI p10 0)),AV.t (tI (w64 (Kd IntKind.u64 (IntKind.wrap IntKind.u64 (w64 ((vI p10 0)+(vI p10 1)))) (1:Int))))],[]))) none) none) none)
 none) none) none) none) none) (cnd (decide (vI p10 0<((length a2:Nat):Int))=true) (cnd ((5:Nat)=(5:Nat)∧(0:Int)≤vI p10 0) (Option.bind a2[toNat (vI p10 0)]? fun y14=>cnd (okI y14
 0) (cnd (okI y14 1) (cnd (okI y14 2) (cnd (okI y14 3) (cnd (okI y14 4) (Option.bind (AK C n (96:Nat) [tI (gI y14 0),tI (gI y14 1),tI (gI y14 2),tI (gI y14 3),tI (gI y14 4),tI a3,tI a4,tI a5,
 tI a6,tI a7]) fun y15=>cnd (length y15=(1:Nat)) (cnd (okI y15 0) (Option.bind (AK C n (1000106:Nat) [Tree.sl (5:Nat) a2]) fun y16=>cnd (length y16=(1:Nat)∧okL 5 y16 0) (cnd
 ((0:Nat)=(0:Nat)∧(5:Nat)=(5:Nat)∧(0:Nat)+(length (gL y16 0))=length (gL y16 0)∧(length (gL y16 0))+(1:Nat)≤(1073741824:Nat)∧(0:Int)≤vI p10 0∧vI p10 0≤
 ((length (gL y16 0):Nat):Int)∧(5:Nat)≠(1:Nat)) (Option.bind (AK C n (98:Nat) [Tree.sl (5:Nat) (take ((length (gL y16 0))+(1:Nat)) (((take (toNat (vI p10 0)) (gL y16
 0))++[[tI a3,tI a4,tI a5,tI a6,tI a7]])++(drop (toNat (vI p10 0)) (gL y16 0)))),tI a3]) fun y17=>cnd (length y17=(1:Nat)) (cnd (okL 2 y17 0) (Option.bind (AK C n (97:Nat)
 [Tree.sl (2:Nat) (gL y17 0)]) fun y18=>cnd (length y18=(1:Nat)) (cnd (okI y18 0) (cnd ((1:Nat)=(1:Nat)∧(0:Int)≤a3) (Option.bind a0[toNat a3]? fun y19=>cnd (okI y19 0) (cnd (decide
 (gI y18 0>gI y19 0)=true) (some [Tree.sl (5:Nat) [],tI (15:Int)]) (some [Tree.sl (5:Nat) (take ((length (gL y16 0))+(1:Nat)) (((take (toNat (vI p10 0)) (gL y16 0))++[[tI
 a3,tI a4,tI a5,tI a6,tI a7]])++(drop (toNat (vI p10 0)) (gL y16 0)))),tI (0:Int)])) none) none) none) none) none) none) none) none) none) none) none) none) none) none) none) none)
 (Option.bind (AK C n (1000106:Nat) [Tree.sl (5:Nat) a2]) fun y20=>cnd (length y20=(1:Nat)∧okL 5 y20 0) (cnd ((0:Nat)=(0:Nat)∧(5:Nat)=(5:Nat)∧(0:Nat)+(length (gL y20 0))=
 length (gL y20 0)∧(length (gL y20 0))+(1:Nat)≤(1073741824:Nat)∧(0:Int)≤vI p10 0∧vI p10 0≤((length (gL y20 0):Nat):Int)∧(5:Nat)≠(1:Nat)) (Option.bind (AK C n
 (98:Nat) [Tree.sl (5:Nat) (take ((length (gL y20 0))+(1:Nat)) (((take (toNat (vI p10 0)) (gL y20 0))++[[tI a3,tI a4,tI a5,tI a6,tI a7]])++(drop (toNat (vI p10 0))
 (gL y20 0)))),tI a3]) fun y21=>cnd (length y21=(1:Nat)) (cnd (okL 2 y21 0) (Option.bind (AK C n (97:Nat) [Tree.sl (2:Nat) (gL y21 0)]) fun y22=>cnd (length y22=(1:Nat)) (cnd (okI
 y22 0) (cnd ((1:Nat)=(1:Nat)∧(0:Int)≤a3) (Option.bind a0[toNat a3]? fun y23=>cnd (okI y23 0) (cnd (decide (gI y22 0>gI y23 0)=true) (some [Tree.sl (5:Nat) [],tI (15:Int)]) (some
 [Tree.sl (5:Nat) (take ((length (gL y20 0))+(1:Nat)) (((take (toNat (vI p10 0)) (gL y20 0))++[[tI a3,tI a4,tI a5,tI a6,tI a7]])++(drop (toNat (vI p10 0)) (gL y20
 0)))),tI (0:Int)])) none) none) none) none) none) none) none) none))) n ([AV.t (tI (0:Int)),AV.t (tI ((length a2:Nat):Int))],[])))) none) none)) none) none:=by kernel_rfl
theorem e85 (n:Nat) (a0:List (List Tree)) (a1:List (List Tree)) (a2:List (List Tree)) (a3:Int) (a4:Int):AK C (n+1) 85 [Tree.sl (1:Nat) a0,Tree.sl (7:Nat) a1,Tree.sl (5:Nat) a2,tI a3,tI a4]=
 Option.bind (AK C n (48:Nat) [Tree.sl (1:Nat) a0,Tree.sl (7:Nat) a1,Tree.sl (5:Nat) a2]) fun y5=>cnd (length y5=(1:Nat)) (cnd (okI y5 0) (cnd (((gI y5 0) != (0:Int))=true) (some
 [Tree.sl (2:Nat) [],tI (1:Int)]) (cnd (decide (a3<(0:Int))=true) (some [Tree.sl (2:Nat) [],tI (2:Int)]) (cnd (decide (a3≥((length a0:Nat):Int))=true) (some [Tree.sl (2:Nat) [],tI
 (2:Int)]) (cnd (decide (a4<(1:Int))=true) (some [Tree.sl (2:Nat) [],tI (2:Int)]) (cnd (decide (a4>(65536:Int))=true) (some [Tree.sl (2:Nat) [],tI (2:Int)]) (cnd ((1:Nat)=(1:Nat)∧(0:Int)
 ≤a3) (Option.bind a0[toNat a3]? fun y6=>cnd (okI y6 0) (cnd (decide (w64 ((gI y6 0)-(0:Int))<a4)=true) (Option.bind (AK C n (98:Nat) [Tree.sl (5:Nat) a2,tI a3]) fun y7=>cnd
 (length y7=(1:Nat)) (cnd (okL 2 y7 0) (AI (fun (p8:List AV×Heap) (again9:_→Option (List Tree))=>cnd (decide (vI p8 0<((length (gL y7 0):Nat):Int))=true) (cnd ((2:Nat)=
 (2:Nat)∧(0:Int)≤vI p8 0) (Option.bind (gL y7 0)[toNat (vI p8 0)]? fun y10=>cnd (okI y10 0) (cnd (okI y10 1) (cnd (decide (gI y10 0<(1099511627776:Int))=true) (cnd ((1:Nat)=(1:Nat)∧
 (0:Int)≤a3) (Option.bind a0[toNat a3]? fun y11=>cnd (okI y11 0) (cnd (decide (w64 ((gI y11 0)-(gI y10 1))<a4)=true) (cnd (decide (cI p8 2 0≥(0:Int))=true) (cnd (decide (cI p8 2 0 <
 gI y10 0)=true) (cnd (AO p8 0=AL p8 1 0∧((2:Nat)=(2:Nat)∨(2:Nat)=(0:Nat))∧(AP p8 1 0)+(AM p8 1 0)≤length (oEs p8 0)∧(AM p8 1 0)+(1:Nat)≤(1073741824:Nat)) (again9
 ([AV.t (tI (w64 ((vI p8 0)+(1:Int))))],[AE.row false ((AL p8 1 0)+(1:Nat)) (2:Nat) ((take (AM p8 1 0) (drop (AP p8 1 0) (oEs p8 0)))++[[tI (cI p8 2 0),tI (gI y10 0)]]),
 AE.box [AV.sref (0:Nat) ((AL p8 1 0)+(1:Nat)) (0:Nat) ((AM p8 1 0)+(1:Nat))],AE.box [AV.t (tI (-1:Int))],AE.box [AV.func (Fn.func 145) [] [AV.ptr (2:Nat) (0:Nat),AV.ptr (1:Nat)
 (0:Nat)]]])) none) (again9 ([AV.t (tI (w64 ((vI p8 0)+(1:Int))))],[AE.row false (AO p8 0) (2:Nat) (oEs p8 0),AE.box [AV.sref (0:Nat) (AL p8 1 0) (AP p8 1 0) (AM p8 1 0)],AE.box
 [AV.t (tI (-1:Int))],AE.box [AV.func (Fn.func 145) [] [AV.ptr (2:Nat) (0:Nat),AV.ptr (1:Nat) (0:Nat)]]]))) (again9 ([AV.t (tI (w64 ((vI p8 0)+(1:Int))))],[AE.row false (AO p8 0) (2:Nat)
 (oEs p8 0),AE.box [AV.sref (0:Nat) (AL p8 1 0) (AP p8 1 0) (AM p8 1 0)],AE.box [AV.t (tI (-1:Int))],AE.box [AV.func (Fn.func 145) [] [AV.ptr (2:Nat) (0:Nat),AV.ptr (1:Nat)
 (0:Nat)]]]))) (cnd (decide (cI p8 2 0<(0:Int))=true) (again9 ([AV.t (tI (w64 ((vI p8 0)+(1:Int))))],[AE.row false (AO p8 0) (2:Nat) (oEs p8 0),AE.box [AV.sref (0:Nat) (AL p8 1 0) (AP
 p8 1 0) (AM p8 1 0)],AE.box [AV.t (tI (gI y10 0))],AE.box [AV.func (Fn.func 145) [] [AV.ptr (2:Nat) (0:Nat),AV.ptr (1:Nat) (0:Nat)]]])) (again9 ([AV.t (tI (w64 ((vI p8 0)+(1:Int))))],
 [AE.row false (AO p8 0) (2:Nat) (oEs p8 0),AE.box [AV.sref (0:Nat) (AL p8 1 0) (AP p8 1 0) (AM p8 1 0)],AE.box [AV.t (tI (cI p8 2 0))],AE.box [AV.func (Fn.func 145) [] [AV.ptr
 (2:Nat) (0:Nat),AV.ptr (1:Nat) (0:Nat)]]])))) none) none) (again9 ([AV.t (tI (w64 ((vI p8 0)+(1:Int))))],[AE.row false (AO p8 0) (2:Nat) (oEs p8 0),AE.box [AV.sref (0:Nat) (AL p8 1 0)
 (AP p8 1 0) (AM p8 1 0)],AE.box [AV.t (tI (cI p8 2 0))],AE.box [AV.func (Fn.func 145) [] [AV.ptr (2:Nat) (0:Nat),AV.ptr (1:Nat) (0:Nat)]]]))) none) none) none) (cnd (decide (cI p8 2 0 ≥
 (0:Int))=true) (cnd (decide (cI p8 2 0<(1099511627776:Int))=true) (cnd (AO p8 0=AL p8 1 0∧((2:Nat)=(2:Nat)∨(2:Nat)=(0:Nat))∧(AP p8 1 0)+(AM p8 1 0)≤length (oEs p8 0)
 ∧(AM p8 1 0)+(1:Nat)≤(1073741824:Nat)) (cnd ((false=true∨false=false)∧(AL p8 1 0)+(1:Nat)=(AL p8 1 0)+(1:Nat)∧((2:Nat)=(2:Nat)∨(2:Nat)=(0:Nat))) (some [Tree.sl (2:Nat)
 (take ((AM p8 1 0)+(1:Nat)) ((take (AM p8 1 0) (drop (AP p8 1 0) (oEs p8 0)))++[[tI (cI p8 2 0),tI (1099511627776:Int)]])),tI (0:Int)]) none) none) (cnd ((false=true∨
 false=false)∧AO p8 0=AL p8 1 0∧((2:Nat)=(2:Nat)∨(2:Nat)=(0:Nat))) (some [Tree.sl (2:Nat) (take (AM p8 1 0) (drop (AP p8 1 0) (oEs p8 0))),tI (0:Int)]) none)) (cnd
 ((false=true∨false=false)∧AO p8 0=AL p8 1 0∧((2:Nat)=(2:Nat)∨(2:Nat)=(0:Nat))) (some [Tree.sl (2:Nat) (take (AM p8 1 0) (drop (AP p8 1 0) (oEs p8 0))),tI (0:Int)])
 none))) n ([AV.t (tI (0:Int))],[AE.row false (0:Nat) (2:Nat) [],AE.box [AV.sref (0:Nat) (0:Nat) (0:Nat) (0:Nat)],AE.box [AV.t (tI (-1:Int))],AE.box [AV.func (Fn.func 145) [] [AV.ptr
 (2:Nat) (0:Nat),AV.ptr (1:Nat) (0:Nat)]]])) none) none) (Option.bind (AK C n (98:Nat) [Tree.sl (5:Nat) a2,tI a3]) fun y12=>cnd (length y12=(1:Nat)) (cnd (okL 2 y12 0) (AI (fun (p13
 : List AV×Heap) (again14:_→Option (List Tree))=>cnd (decide (vI p13 0<((length (gL y12 0):Nat):Int))=true) (cnd ((2:Nat)=(2:Nat)∧(0:Int)≤vI p13 0) (Option.bind (gL y12
 0)[toNat (vI p13 0)]? fun y15=>cnd (okI y15 0) (cnd (okI y15 1) (cnd (decide (gI y15 0<(1099511627776:Int))=true) (cnd ((1:Nat)=(1:Nat)∧(0:Int)≤a3) (Option.bind a0[toNat a3]? fun
 y16=>cnd (okI y16 0) (cnd (decide (w64 ((gI y16 0)-(gI y15 1))<a4)=true) (cnd (decide (cI p13 2 0≥(0:Int))=true) (cnd (decide (cI p13 2 0<gI y15 0)=true) (cnd (AO p13 0=AL p13 1
 0∧((2:Nat)=(2:Nat)∨(2:Nat)=(0:Nat))∧(AP p13 1 0)+(AM p13 1 0)≤length (oEs p13 0)∧(AM p13 1 0)+(1:Nat)≤(1073741824:Nat)) (again14 ([AV.t (tI (w64 ((vI p13 0) +
 (1:Int))))],[AE.row false ((AL p13 1 0)+(1:Nat)) (2:Nat) ((take (AM p13 1 0) (drop (AP p13 1 0) (oEs p13 0)))++[[tI (cI p13 2 0),tI (gI y15 0)]]),AE.box [AV.sref (0:Nat)
 ((AL p13 1 0)+(1:Nat)) (0:Nat) ((AM p13 1 0)+(1:Nat))],AE.box [AV.t (tI (-1:Int))],AE.box [AV.func (Fn.func 145) [] [AV.ptr (2:Nat) (0:Nat),AV.ptr (1:Nat) (0:Nat)]]])) none) (again14
 ([AV.t (tI (w64 ((vI p13 0)+(1:Int))))],[AE.row false (AO p13 0) (2:Nat) (oEs p13 0),AE.box [AV.sref (0:Nat) (AL p13 1 0) (AP p13 1 0) (AM p13 1 0)],AE.box [AV.t (tI (-1:Int))],
 AE.box [AV.func (Fn.func 145) [] [AV.ptr (2:Nat) (0:Nat),AV.ptr (1:Nat) (0:Nat)]]]))) (again14 ([AV.t (tI (w64 ((vI p13 0)+(1:Int))))],[AE.row false (AO p13 0) (2:Nat) (oEs p13 0),AE.box
 [AV.sref (0:Nat) (AL p13 1 0) (AP p13 1 0) (AM p13 1 0)],AE.box [AV.t (tI (-1:Int))],AE.box [AV.func (Fn.func 145) [] [AV.ptr (2:Nat) (0:Nat),AV.ptr (1:Nat) (0:Nat)]]]))) (cnd (decide (cI
 p13 2 0<(0:Int))=true) (again14 ([AV.t (tI (w64 ((vI p13 0)+(1:Int))))],[AE.row false (AO p13 0) (2:Nat) (oEs p13 0),AE.box [AV.sref (0:Nat) (AL p13 1 0) (AP p13 1 0) (AM p13 1
 0)],AE.box [AV.t (tI (gI y15 0))],AE.box [AV.func (Fn.func 145) [] [AV.ptr (2:Nat) (0:Nat),AV.ptr (1:Nat) (0:Nat)]]])) (again14 ([AV.t (tI (w64 ((vI p13 0)+(1:Int))))],[AE.row false (AO
 p13 0) (2:Nat) (oEs p13 0),AE.box [AV.sref (0:Nat) (AL p13 1 0) (AP p13 1 0) (AM p13 1 0)],AE.box [AV.t (tI (cI p13 2 0))],AE.box [AV.func (Fn.func 145) [] [AV.ptr (2:Nat) (0:Nat),
 AV.ptr (1:Nat) (0:Nat)]]])))) none) none) (again14 ([AV.t (tI (w64 ((vI p13 0)+(1:Int))))],[AE.row false (AO p13 0) (2:Nat) (oEs p13 0),AE.box [AV.sref (0:Nat) (AL p13 1 0) (AP p13 1 0)
 (AM p13 1 0)],AE.box [AV.t (tI (cI p13 2 0))],AE.box [AV.func (Fn.func 145) [] [AV.ptr (2:Nat) (0:Nat),AV.ptr (1:Nat) (0:Nat)]]]))) none) none) none) (cnd (decide (cI p13 2 0≥(0:Int))=
 true) (cnd (decide (cI p13 2 0<(1099511627776:Int))=true) (cnd (AO p13 0=AL p13 1 0∧((2:Nat)=(2:Nat)∨(2:Nat)=(0:Nat))∧(AP p13 1 0)+(AM p13 1 0)≤length (oEs p13 0)∧
 (AM p13 1 0)+(1:Nat)≤(1073741824:Nat)) (cnd ((false=true∨false=false)∧(AL p13 1 0)+(1:Nat)=(AL p13 1 0)+(1:Nat)∧((2:Nat)=(2:Nat)∨(2:Nat)=(0:Nat))) (some [Tree.sl
 (2:Nat) (take ((AM p13 1 0)+(1:Nat)) ((take (AM p13 1 0) (drop (AP p13 1 0) (oEs p13 0)))++[[tI (cI p13 2 0),tI (1099511627776:Int)]])),tI (0:Int)]) none) none) (cnd ((false
 = true∨false=false)∧AO p13 0=AL p13 1 0∧((2:Nat)=(2:Nat)∨(2:Nat)=(0:Nat))) (some [Tree.sl (2:Nat) (take (AM p13 1 0) (drop (AP p13 1 0) (oEs p13 0))),tI (0:Int)])
 none)) (cnd ((false=true∨false=false)∧AO p13 0=AL p13 1 0∧((2:Nat)=(2:Nat)∨(2:Nat)=(0:Nat))) (some [Tree.sl (2:Nat) (take (AM p13 1 0) (drop (AP p13 1 0) (oEs p13
 0))),tI (0:Int)]) none))) n ([AV.t (tI (0:Int))],[AE.row false (0:Nat) (2:Nat) [],AE.box [AV.sref (0:Nat) (0:Nat) (0:Nat) (0:Nat)],AE.box [AV.t (tI (0:Int))],AE.box [AV.func (Fn.func 145)
 [] [AV.ptr (2:Nat) (0:Nat),AV.ptr (1:Nat) (0:Nat)]]])) none) none)) none) none)))))) none) none:=by kernel_rfl
theorem e95 (n:Nat) (a0:List (List Tree)) (a1:List (List Tree)) (a2:Int) (a3:Int) (a4:Int) (a5:Int) (a6:Int):AK C (n+1) 95 [Tree.sl (1:Nat) a0,Tree.sl (7:Nat) a1,tI a2,tI a3,tI a4,tI a5,tI a6]=
 cnd (decide (a2≥(0:Int))=true) (cnd (decide (a2<((length a0:Nat):Int))=true) (cnd (decide (a3≥(0:Int))=true) (cnd (decide (a3<a4)=true) (cnd (decide (a4≤(1099511627776:Int))=
 true) (cnd (decide (a5≥(1:Int))=true) (cnd (decide (a5≤(65536:Int))=true) (cnd (decide (a6≥(0:Int))=true) (some [Tree.bool (decide (a6≤(1152921504606846976:Int)))]) (some [Tree.bool
 false])) (some [Tree.bool false])) (some [Tree.bool false])) (some [Tree.bool false])) (some [Tree.bool false])) (some [Tree.bool false])) (some [Tree.bool false])) (some [Tree.bool false]):=by kernel_rfl
theorem e96 (n:Nat) (a0:Int) (a1:Int) (a2:Int) (a3:Int) (a4:Int) (a5:Int) (a6:Int) (a7:Int) (a8:Int) (a9:Int):AK C (n+1) 96 [tI a0,tI a1,tI a2,tI a3,tI a4,tI a5,tI a6,tI a7,tI a8,tI a9]=
 Option.bind (AK C n (35:Nat) [tI a0,tI a5]) fun y10=>cnd (length y10=(1:Nat)) (cnd (okI y10 0) (Option.bind (AK C n (35:Nat) [tI a1,tI a6]) fun y11=>cnd (length y11=(1:Nat))
 (cnd (okI y11 0) (Option.bind (AK C n (35:Nat) [tI a2,tI a7]) fun y12=>cnd (length y12=(1:Nat)) (cnd (okI y12 0) (Option.bind (AK C n (35:Nat) [tI a4,tI a9]) fun y13=>cnd
 (length y13=(1:Nat)) (cnd (okI y13 0) (Option.bind (AK C n (35:Nat) [tI a3,tI a8]) fun y14=>cnd (length y14=(1:Nat)) (cnd (okI y14 0) (Option.bind (AK C n (34:Nat) [Tree.sl
 (1:Nat) [[tI (gI y10 0)],[tI (gI y11 0)],[tI (gI y12 0)],[tI (gI y13 0)],[tI (gI y14 0)]]]) fun y15=>cnd (length y15=(1:Nat)) (cnd (okI y15 0) (some [tI (gI y15 0)]) none) none) none)
 none) none) none) none) none) none) none) none) none:=by kernel_rfl
theorem e97 (n:Nat) (a0:List (List Tree)):AK C (n+1) 97 [Tree.sl (2:Nat) a0]=
 AI (fun (p1:List AV×Heap) (again2:_→Option (List Tree))=>cnd (decide (vI p1 1<((length a0:Nat):Int))=true) (cnd ((2:Nat)=(2:Nat)∧(0:Int)≤vI p1 1) (Option.bind
 a0[toNat (vI p1 1)]? fun y3=>cnd (okI y3 0) (cnd (okI y3 1) (again2 ([AV.t (tI (if gI y3 1>vI p1 0 then gI y3 1 else vI p1 0)),AV.t (tI (w64 ((vI p1 1)+(1:Int))))],[])) none) none) none)
 (some [tI (vI p1 0)])) n ([AV.t (tI (0:Int)),AV.t (tI (0:Int))],[]):=by kernel_rfl
theorem e98 (n:Nat) (a0:List (List Tree)) (a1:Int):AK C (n+1) 98 [Tree.sl (5:Nat) a0,tI a1]=
 AI (fun (p2:List AV×Heap) (again3:_→Option (List Tree))=>cnd (decide (vI p2 0<((length a0:Nat):Int))=true) (cnd ((5:Nat)=(5:Nat)∧(0:Int)≤vI p2 0) (Option.bind
 a0[toNat (vI p2 0)]? fun y4=>cnd (okI y4 0) (cnd (okI y4 1) (cnd (okI y4 2) (cnd (okI y4 3) (cnd (okI y4 4) (cnd (((gI y4 0)==a1)=true) (cnd ((!(Option.isSome (As (gI y4 1) (oMs p2 0))))
 = true) (cnd (AO p2 2=AL p2 3 0∧((1:Nat)=(1:Nat)∨(1:Nat)=(0:Nat))∧(AP p2 3 0)+(AM p2 3 0)≤length (oEs p2 2)∧(AM p2 3 0)+(1:Nat)≤(1073741824:Nat)) (cnd
 ((!(Option.isSome (As (gI y4 2) (BO (gI y4 1) (w64 ((Option.getD (As (gI y4 1) (oMs p2 0)) (0:Int))+(gI y4 3))) (oMs p2 0)))))=true) (cnd ((AL p2 3 0)+(1:Nat)=(AL p2 3 0) +
 (1:Nat)∧((1:Nat)=(1:Nat)∨(1:Nat)=(0:Nat))∧(0:Nat)+((AM p2 3 0)+(1:Nat))≤length ((take (AM p2 3 0) (drop (AP p2 3 0) (oEs p2 2)))++[[tI (gI y4 1)]])∧((AM p2 3
 0)+(1:Nat))+(1:Nat)≤(1073741824:Nat)) (again3 ([AV.t (tI (w64 ((vI p2 0)+(1:Int))))],[AE.mapo IntKind.i64 IntKind.i64 (BO (gI y4 2) (w64 ((Option.getD (As (gI y4 2) (BO (gI y4
 1) (w64 ((Option.getD (As (gI y4 1) (oMs p2 0)) (0:Int))+(gI y4 3))) (oMs p2 0))) (0:Int))+(w64 ((0:Int)-(gI y4 3))))) (BO (gI y4 1) (w64 ((Option.getD (As (gI y4 1) (oMs p2 0))
 (0:Int))+(gI y4 3))) (oMs p2 0))),AE.box [AV.mref (0:Nat)],AE.row false (((AL p2 3 0)+(1:Nat))+(1:Nat)) (1:Nat) ((take ((AM p2 3 0)+(1:Nat)) ((take (AM p2 3 0) (drop
 (AP p2 3 0) (oEs p2 2)))++[[tI (gI y4 1)]]))++[[tI (gI y4 2)]]),AE.box [AV.sref (2:Nat) (((AL p2 3 0)+(1:Nat))+(1:Nat)) (0:Nat) (((AM p2 3 0)+(1:Nat))+(1:Nat))]])) none) (again3
 ([AV.t (tI (w64 ((vI p2 0)+(1:Int))))],[AE.mapo IntKind.i64 IntKind.i64 (BO (gI y4 2) (w64 ((Option.getD (As (gI y4 2) (BO (gI y4 1) (w64 ((Option.getD (As (gI y4 1) (oMs p2 0))
 (0:Int))+(gI y4 3))) (oMs p2 0))) (0:Int))+(w64 ((0:Int)-(gI y4 3))))) (BO (gI y4 1) (w64 ((Option.getD (As (gI y4 1) (oMs p2 0)) (0:Int))+(gI y4 3))) (oMs p2 0))),AE.box [AV.mref
 (0:Nat)],AE.row false ((AL p2 3 0)+(1:Nat)) (1:Nat) ((take (AM p2 3 0) (drop (AP p2 3 0) (oEs p2 2)))++[[tI (gI y4 1)]]),AE.box [AV.sref (2:Nat) ((AL p2 3 0)+(1:Nat))
 (0:Nat) ((AM p2 3 0)+(1:Nat))]]))) none) (cnd ((!(Option.isSome (As (gI y4 2) (BO (gI y4 1) (w64 ((Option.getD (As (gI y4 1) (oMs p2 0)) (0:Int))+(gI y4 3))) (oMs p2 0)))))=true)
 (cnd (AO p2 2=AL p2 3 0∧((1:Nat)=(1:Nat)∨(1:Nat)=(0:Nat))∧(AP p2 3 0)+(AM p2 3 0)≤length (oEs p2 2)∧(AM p2 3 0)+(1:Nat)≤(1073741824:Nat)) (again3 ([AV.t (tI (w64
 ((vI p2 0)+(1:Int))))],[AE.mapo IntKind.i64 IntKind.i64 (BO (gI y4 2) (w64 ((Option.getD (As (gI y4 2) (BO (gI y4 1) (w64 ((Option.getD (As (gI y4 1) (oMs p2 0)) (0:Int))+(gI y4
 3))) (oMs p2 0))) (0:Int))+(w64 ((0:Int)-(gI y4 3))))) (BO (gI y4 1) (w64 ((Option.getD (As (gI y4 1) (oMs p2 0)) (0:Int))+(gI y4 3))) (oMs p2 0))),AE.box [AV.mref (0:Nat)],AE.row
 false ((AL p2 3 0)+(1:Nat)) (1:Nat) ((take (AM p2 3 0) (drop (AP p2 3 0) (oEs p2 2)))++[[tI (gI y4 2)]]),AE.box [AV.sref (2:Nat) ((AL p2 3 0)+(1:Nat)) (0:Nat) ((AM p2 3 0)
 + (1:Nat))]])) none) (again3 ([AV.t (tI (w64 ((vI p2 0)+(1:Int))))],[AE.mapo IntKind.i64 IntKind.i64 (BO (gI y4 2) (w64 ((Option.getD (As (gI y4 2) (BO (gI y4 1) (w64 ((Option.getD
 (As (gI y4 1) (oMs p2 0)) (0:Int))+(gI y4 3))) (oMs p2 0))) (0:Int))+(w64 ((0:Int)-(gI y4 3))))) (BO (gI y4 1) (w64 ((Option.getD (As (gI y4 1) (oMs p2 0)) (0:Int))+(gI y4 3)))
 (oMs p2 0))),AE.box [AV.mref (0:Nat)],AE.row false (AO p2 2) (1:Nat) (oEs p2 2),AE.box [AV.sref (2:Nat) (AL p2 3 0) (AP p2 3 0) (AM p2 3 0)]])))) (again3 ([AV.t (tI (w64 ((vI p2 0) +
 (1:Int))))],[AE.mapo IntKind.i64 IntKind.i64 (oMs p2 0),AE.box [AV.mref (0:Nat)],AE.row false (AO p2 2) (1:Nat) (oEs p2 2),AE.box [AV.sref (2:Nat) (AL p2 3 0) (AP p2 3 0) (AM p2 3
 0)]]))) none) none) none) none) none) none) (cnd (AO p2 2=AL p2 3 0∧(1:Nat)=(1:Nat)∧(AP p2 3 0)+(AM p2 3 0)≤length (oEs p2 2)∧AM p2 3 0≤(1073741824:Nat)∧Ax
 (1:Nat) (take (AM p2 3 0) (drop (AP p2 3 0) (oEs p2 2)))=true) (cnd (AL p2 3 0=AL p2 3 0) (AI (fun (p5:List AV×Heap) (again6:_→Option (List Tree))=>cnd (decide
 (vI p5 2<((AM p2 3 0:Nat):Int))=true) (cnd (AO p5 2=AL p2 3 0∧(1:Nat)=(1:Nat)∧(0:Int)≤vI p5 2∧vI p5 2<((AM p2 3 0:Nat):Int)) (cnd (AO p5 2=AL p2 3 0) (Option.bind (oEs
 p5 2)[(AP p2 3 0)+(toNat (vI p5 2))]? fun y7=>cnd (okI y7 0) (cnd (((Option.getD (As (gI y7 0) (oMs p5 0)) (0:Int))==(0:Int))=true) (again6 ([AV.t (tI (vI p5 0)),AV.sref (4:Nat)
 (Bu p5 1) (C8 p5 1) (Av p5 1),AV.t (tI (w64 ((vI p5 2)+(1:Int))))],[AE.mapo IntKind.i64 IntKind.i64 (oMs p5 0),AE.box [AV.mref (0:Nat)],AE.row false (AO p5 2) (1:Nat) (oEs p5 2),
 AE.box [AV.sref (2:Nat) (AL p5 3 0) (AP p5 3 0) (AM p5 3 0)],AE.row false (AO p5 4) (2:Nat) (oEs p5 4)])) (cnd (AO p5 4=Bu p5 1∧((2:Nat)=(2:Nat)∨(2:Nat)=(0:Nat))∧(C8 p5
 1)+(Av p5 1)≤length (oEs p5 4)∧(Av p5 1)+(1:Nat)≤(1073741824:Nat)) (again6 ([AV.t (tI (w64 ((vI p5 0)+(Option.getD (As (gI y7 0) (oMs p5 0)) (0:Int))))),AV.sref (4:Nat)
 ((Bu p5 1)+(1:Nat)) (0:Nat) ((Av p5 1)+(1:Nat)),AV.t (tI (w64 ((vI p5 2)+(1:Int))))],[AE.mapo IntKind.i64 IntKind.i64 (oMs p5 0),AE.box [AV.mref (0:Nat)],AE.row false (AO p5 2)
 (1:Nat) (oEs p5 2),AE.box [AV.sref (2:Nat) (AL p5 3 0) (AP p5 3 0) (AM p5 3 0)],AE.row false ((Bu p5 1)+(1:Nat)) (2:Nat) ((take (Av p5 1) (drop (C8 p5 1) (oEs p5 4))) ++
 [[tI (gI y7 0),tI (w64 ((vI p5 0)+(Option.getD (As (gI y7 0) (oMs p5 0)) (0:Int))))]])])) none)) none) none) none) (cnd ((false=true∨false=false)∧AO p5 4=Bu p5 1∧((2:Nat)=
 (2:Nat)∨(2:Nat)=(0:Nat))) (some [Tree.sl (2:Nat) (take (Av p5 1) (drop (C8 p5 1) (oEs p5 4)))]) none)) n ([AV.t (tI (0:Int)),AV.sref (4:Nat) (0:Nat) (0:Nat) (0:Nat),AV.t (tI
 (0:Int))],[AE.mapo IntKind.i64 IntKind.i64 (oMs p2 0),AE.box [AV.mref (0:Nat)],AE.row false (AL p2 3 0) (1:Nat) (A3 (oEs p2 2) (AP p2 3 0) (FA (take (AM p2 3 0) (drop
 (AP p2 3 0) (oEs p2 2))))),AE.box [AV.sref (2:Nat) (AL p2 3 0) (AP p2 3 0) (AM p2 3 0)],AE.row false (0:Nat) (2:Nat) []])) none) none)) n ([AV.t (tI (0:Int))],[AE.mapo IntKind.i64
 IntKind.i64 [],AE.box [AV.mref (0:Nat)],AE.row false (0:Nat) (1:Nat) [],AE.box [AV.sref (2:Nat) (0:Nat) (0:Nat) (0:Nat)]]):=by kernel_rfl
theorem e58 (n:Nat) (a0:List (List Tree)) (a1:List (List Tree)) (a2:List (List Tree)):AK C (n+1) 58 [Tree.sl (1:Nat) a0,Tree.sl (7:Nat) a1,Tree.sl (5:Nat) a2]=
 Option.bind (AK C n (15:Nat) [Tree.sl (1:Nat) a0,Tree.sl (7:Nat) a1]) fun y3=>cnd (length y3=(1:Nat)) (cnd (okI y3 0) (cnd (((gI y3 0) != (0:Int))=true) (some [tI (1:Int)]) (cnd (decide
 (((length a2:Nat):Int)>(512:Int))=true) (some [tI (4:Int)]) (AI (fun (p4:List AV×Heap) (again5:_→Option (List Tree))=>cnd (decide (vI p4 0<((length a2:Nat):Int))=
 true) (cnd ((5:Nat)=(5:Nat)∧(0:Int)≤vI p4 0) (Option.bind a2[toNat (vI p4 0)]? fun y6=>cnd (okI y6 0) (cnd (okI y6 1) (cnd (okI y6 2) (cnd (okI y6 3) (cnd (okI y6 4) (Option.bind (AK C
 n (109:Nat) [Tree.sl (1:Nat) a0,Tree.sl (7:Nat) a1,tI (gI y6 0),tI (gI y6 1),tI (gI y6 2),tI (gI y6 3),tI (gI y6 4)]) fun y7=>cnd (length y7=(1:Nat)) (cnd (okB y7 0) (cnd ((!(gB y7 0))
 = true) (some [tI (2:Int)]) (cnd (decide (vI p4 0>(0:Int))=true) (cnd ((5:Nat)=(5:Nat)∧(0:Int)≤vI p4 0) (Option.bind a2[toNat (vI p4 0)]? fun y8=>cnd (okI y8 0) (cnd (okI y8 1) (cnd
 (okI y8 2) (cnd (okI y8 3) (cnd (okI y8 4) (cnd ((5:Nat)=(5:Nat)∧(0:Int)≤w64 ((vI p4 0)-(1:Int))) (Option.bind a2[toNat (w64 ((vI p4 0)-(1:Int)))]? fun y9=>cnd (okI y9 0) (cnd (okI y9
 1) (cnd (okI y9 2) (cnd (okI y9 3) (cnd (okI y9 4) (Option.bind (AK C n (110:Nat) [tI (gI y8 0),tI (gI y8 1),tI (gI y8 2),tI (gI y8 3),tI (gI y8 4),tI (gI y9 0),tI (gI y9 1),tI (gI y9 2),tI
 (gI y9 3),tI (gI y9 4)]) fun y10=>cnd (length y10=(1:Nat)) (cnd (okB y10 0) (cnd (gB y10 0=true) (some [tI (9:Int)]) (again5 ([AV.t (tI (w64 ((vI p4 0)+(1:Int))))],[]))) none) none)
 none) none) none) none) none) none) none) none) none) none) none) none) (again5 ([AV.t (tI (w64 ((vI p4 0)+(1:Int))))],[])))) none) none) none) none) none) none) none) none) (Option.bind (AK C n
 (111:Nat) [Tree.sl (1:Nat) a0,Tree.sl (7:Nat) a1,Tree.sl (5:Nat) a2]) fun y11=>cnd (length y11=(1:Nat)) (cnd (okB y11 0) (cnd ((!(gB y11 0))=true) (some [tI (15:Int)]) (some [tI
 (0:Int)])) none) none)) n ([AV.t (tI (0:Int))],[])))) none) none:=by kernel_rfl
theorem e109 (n:Nat) (a0:List (List Tree)) (a1:List (List Tree)) (a2:Int) (a3:Int) (a4:Int) (a5:Int) (a6:Int):AK C (n+1) 109 [Tree.sl (1:Nat) a0,Tree.sl (7:Nat) a1,tI a2,tI a3,tI a4,tI a5,tI a6]=
 cnd (decide (a2≥(0:Int))=true) (cnd (decide (a2<((length a0:Nat):Int))=true) (cnd (decide (a3≥(0:Int))=true) (cnd (decide (a3<a4)=true) (cnd (decide (a4≤(1099511627776:Int))=
 true) (cnd (decide (a5≥(1:Int))=true) (cnd (decide (a5≤(65536:Int))=true) (cnd (decide (a6≥(0:Int))=true) (some [Tree.bool (decide (a6≤(1152921504606846976:Int)))]) (some [Tree.bool
 false])) (some [Tree.bool false])) (some [Tree.bool false])) (some [Tree.bool false])) (some [Tree.bool false])) (some [Tree.bool false])) (some [Tree.bool false])) (some [Tree.bool false]):=by kernel_rfl
theorem e110 (n:Nat) (a0:Int) (a1:Int) (a2:Int) (a3:Int) (a4:Int) (a5:Int) (a6:Int) (a7:Int) (a8:Int) (a9:Int):AK C (n+1) 110 [tI a0,tI a1,tI a2,tI a3,tI a4,tI a5,tI a6,tI a7,tI a8,tI a9]=
 cnd ((a0 != a5)=true) (some [Tree.bool (decide (a0<a5))]) (cnd ((a1 != a6)=true) (some [Tree.bool (decide (a1<a6))]) (cnd ((a2 != a7)=true) (some [Tree.bool (decide (a2<a7))]) (cnd ((a4 !=
 a9)=true) (some [Tree.bool (decide (a4<a9))]) (some [Tree.bool (decide (a3<a8))])))):=by kernel_rfl
theorem e111 (n:Nat) (a0:List (List Tree)) (a1:List (List Tree)) (a2:List (List Tree)):AK C (n+1) 111 [Tree.sl (1:Nat) a0,Tree.sl (7:Nat) a1,Tree.sl (5:Nat) a2]=
 AI (fun (p3:List AV×Heap) (again4:_→Option (List Tree))=>cnd (decide (vI p3 0<((length a2:Nat):Int))=true) (cnd ((5:Nat)=(5:Nat)∧(0:Int)≤vI p3 0) (Option.bind
 a2[toNat (vI p3 0)]? fun y5=>cnd (okI y5 0) (cnd ((5:Nat)=(5:Nat)∧(0:Int)≤vI p3 0) (Option.bind a2[toNat (vI p3 0)]? fun y6=>cnd (okI y6 1) (Option.bind (AK C n (162:Nat) [Tree.sl
 (5:Nat) a2,tI (gI y5 0),tI (gI y6 1)]) fun y7=>cnd (length y7=(1:Nat)) (cnd (okI y7 0) (cnd ((5:Nat)=(5:Nat)∧(0:Int)≤vI p3 0) (Option.bind a2[toNat (vI p3 0)]? fun y8=>cnd (okI
 y8 0) (cnd ((1:Nat)=(1:Nat)∧(0:Int)≤gI y8 0) (Option.bind a0[toNat (gI y8 0)]? fun y9=>cnd (okI y9 0) (cnd (decide (gI y7 0>gI y9 0)=true) (some [Tree.bool false]) (again4 ([AV.t (tI
 (w64 ((vI p3 0)+(1:Int))))],[]))) none) none) none) none) none) none) none) none) none) none) (some [Tree.bool true])) n ([AV.t (tI (0:Int))],[]):=by kernel_rfl
theorem e162 (n:Nat) (a0:List (List Tree)) (a1:Int) (a2:Int):AK C (n+1) 162 [Tree.sl (5:Nat) a0,tI a1,tI a2]=
 AI (fun (p3:List AV×Heap) (again4:_→Option (List Tree))=>cnd (decide (vI p3 1<((length a0:Nat):Int))=true) (cnd ((5:Nat)=(5:Nat)∧(0:Int)≤vI p3 1) (Option.bind
 a0[toNat (vI p3 1)]? fun y5=>cnd (okI y5 0) (cnd (((gI y5 0)==a1)=true) (cnd ((5:Nat)=(5:Nat)∧(0:Int)≤vI p3 1) (Option.bind a0[toNat (vI p3 1)]? fun y6=>cnd (okI y6 1) (cnd
 (decide (gI y6 1≤a2)=true) (cnd ((5:Nat)=(5:Nat)∧(0:Int)≤vI p3 1) (Option.bind a0[toNat (vI p3 1)]? fun y7=>cnd (okI y7 2) (cnd (decide (a2<gI y7 2)=true) (cnd ((5:Nat)=(5:Nat)∧
 (0:Int)≤vI p3 1) (Option.bind a0[toNat (vI p3 1)]? fun y8=>cnd (okI y8 3) (again4 ([AV.t (tI (w64 ((vI p3 0)+(gI y8 3)))),AV.t (tI (w64 ((vI p3 1)+(1:Int))))],[])) none) none) (again4
 ([AV.t (tI (vI p3 0)),AV.t (tI (w64 ((vI p3 1)+(1:Int))))],[]))) none) none) (again4 ([AV.t (tI (vI p3 0)),AV.t (tI (w64 ((vI p3 1)+(1:Int))))],[]))) none) none) (again4 ([AV.t (tI (vI p3 0)),
 AV.t (tI (w64 ((vI p3 1)+(1:Int))))],[]))) none) none) (some [tI (vI p3 0)])) n ([AV.t (tI (0:Int)),AV.t (tI (0:Int))],[]):=by kernel_rfl
theorem Vo (n:Nat) (a0:List (List Tree)):AK C (n+1) 1000106 [Tree.sl (5:Nat) a0]=
 cnd (length a0≠(0:Nat)) (cnd (length a0≤(1073741824:Nat)) (some [Tree.sl (5:Nat) (take (length a0) a0)]) none) (both (some [Tree.sl (5:Nat) []]) (cnd (length a0≤
 (1073741824:Nat)) (some [Tree.sl (5:Nat) (take (length a0) a0)]) none)):=by kernel_rfl
end Ab
set_option maxRecDepth 100000
namespace Ab
open Go Go.Proofs
theorem e34 (n:Nat) (a0:List (List Tree)):AK C (n+1) 34 [Tree.sl (1:Nat) a0]=
 AI (fun (p1:List AV×Heap) (again2:_→Option (List Tree))=>cnd (decide (vI p1 0<((length a0:Nat):Int))=true) (cnd ((1:Nat)=(1:Nat)∧(0:Int)≤vI p1 0) (Option.bind
 a0[toNat (vI p1 0)]? fun y3=>cnd (okI y3 0) (cnd (((gI y3 0) != (0:Int))=true) (some [tI (gI y3 0)]) (again2 ([AV.t (tI (w64 ((vI p1 0)+(1:Int))))],[]))) none) none) (some [tI (0:Int)])) n
 ([AV.t (tI (0:Int))],[]):=by kernel_rfl
theorem e35 (n:Nat) (a0:Int) (a1:Int):AK C (n+1) 35 [tI a0,tI a1]=
 Option.bind (AK C n (74:Nat) [tI a0]) fun y2=>cnd (length y2=(1:Nat)) (cnd (okB y2 0) (Option.bind (AK C n (74:Nat) [tI a1]) fun y3=>cnd (length y3=(1:Nat)) (cnd (okB y3 0)
 (cnd (gB y2 0=true) (cnd (gB y3 0=true) (some [tI (0:Int)]) (some [tI (-1:Int)])) (cnd (gB y3 0=true) (some [tI (1:Int)]) (cnd (decide (a0<a1)=true) (some [tI (-1:Int)]) (cnd (decide (a0 >
 a1)=true) (some [tI (1:Int)]) (some [tI (0:Int)]))))) none) none) none) none:=by kernel_rfl
theorem e74 (n:Nat) (a0:Int):AK C (n+1) 74 [tI a0]=
 some [Tree.bool (a0 != a0)]:=by kernel_rfl
theorem e36 (n:Nat) (a0:List (List Tree)) (a1:List (List Tree)) (a2:Int) (a3:Int) (a4:Int) (a5:Int):AK C (n+1) 36 [Tree.sl (1:Nat) a0,Tree.sl (7:Nat) a1,tI a2,tI a3,tI a4,tI a5]=
 cnd (decide (a2<(0:Int))=true) (some [Tree.bool false]) (cnd (decide (a2≥((length a1:Nat):Int))=true) (some [Tree.bool false]) (cnd (decide (a5<(0:Int))=true) (some [Tree.bool false])
 (cnd (decide (a5>(1152921504606846976:Int))=true) (some [Tree.bool false]) (cnd ((7:Nat)=(7:Nat)∧(0:Int)≤a2) (Option.bind a1[toNat a2]? fun y6=>cnd (okI y6 0) (cnd (okI y6 1) (cnd (okI
 y6 2) (cnd (okI y6 3) (cnd (okI y6 4) (cnd (okI y6 5) (cnd (okI y6 6) (cnd (decide (a3≥gI y6 2)=true) (cnd (decide (a3<a4)=true) (some [Tree.bool (decide (a4≤gI y6 3))]) (some [Tree.bool
 false])) (some [Tree.bool false])) none) none) none) none) none) none) none) none)))):=by kernel_rfl
theorem e38 (n:Nat) (a0:List (List Tree)) (a1:Int):AK C (n+1) 38 [Tree.sl (4:Nat) a0,tI a1]=
 AI (fun (p2:List AV×Heap) (again3:_→Option (List Tree))=>cnd (decide (vI p2 1<((length a0:Nat):Int))=true) (cnd ((4:Nat)=(4:Nat)∧(0:Int)≤vI p2 1) (Option.bind
 a0[toNat (vI p2 1)]? fun y4=>cnd (okI y4 0) (cnd (okI y4 1) (cnd (okI y4 2) (cnd (okI y4 3) (cnd (((gI y4 0)==a1)=true) (cnd (AO p2 0=Bu p2 0∧((2:Nat)=(2:Nat)∨(2:Nat)=(0:Nat))
 ∧(C8 p2 0)+(Av p2 0)≤length (oEs p2 0)∧(Av p2 0)+(1:Nat)≤(1073741824:Nat)) (again3 ([AV.sref (0:Nat) ((Bu p2 0)+(1:Nat)) (0:Nat) ((Av p2 0)+(1:Nat)),AV.t (tI (w64 ((vI
 p2 1)+(1:Int))))],[AE.row false ((Bu p2 0)+(1:Nat)) (2:Nat) ((take (Av p2 0) (drop (C8 p2 0) (oEs p2 0)))++[[tI (gI y4 1),tI (gI y4 2)]])])) none) (again3 ([AV.sref (0:Nat)
 (Bu p2 0) (C8 p2 0) (Av p2 0),AV.t (tI (w64 ((vI p2 1)+(1:Int))))],[AE.row false (AO p2 0) (2:Nat) (oEs p2 0)]))) none) none) none) none) none) (cnd ((false=true∨false=false)∧
 AO p2 0=Bu p2 0∧((2:Nat)=(2:Nat)∨(2:Nat)=(0:Nat))) (some [Tree.sl (2:Nat) (take (Av p2 0) (drop (C8 p2 0) (oEs p2 0)))]) none)) n ([AV.sref (0:Nat) (0:Nat) (0:Nat) (0:Nat),
 AV.t (tI (0:Int))],[AE.row false (0:Nat) (2:Nat) []]):=by kernel_rfl
theorem e40 (n:Nat) (a0:List (List Tree)) (a1:Int) (a2:Int) (a3:Int) (a4:Int):AK C (n+1) 40 [Tree.sl (4:Nat) a0,tI a1,tI a2,tI a3,tI a4]=
 AI (fun (p5:List AV×Heap) (again6:_→Option (List Tree))=>cnd (decide (vI p5 0<vI p5 1)=true) (cnd ((4:Nat)=(4:Nat)∧(0:Int)≤w64 (Kd IntKind.u64 (IntKind.wrap IntKind.u64
 (w64 ((vI p5 0)+(vI p5 1)))) (1:Int))) (Option.bind a0[toNat (w64 (Kd IntKind.u64 (IntKind.wrap IntKind.u64 (w64 ((vI p5 0)+(vI p5 1)))) (1:Int)))]? fun y7=>cnd (okI y7 0) (cnd (okI y7 1)
 (cnd (okI y7 2) (cnd (okI y7 3) (Option.bind (AK C n (42:Nat) [tI (gI y7 0),tI (gI y7 1),tI (gI y7 2),tI (gI y7 3),tI a1,tI a2,tI a3,tI a4]) fun y8=>cnd (length y8=(1:Nat)) (cnd
 (okI y8 0) (cnd (decide (gI y8 0<(0:Int))=true) (again6 ([AV.t (tI (w64 ((w64 (Kd IntKind.u64 (IntKind.wrap IntKind.u64 (w64 ((vI p5 0)+(vI p5 1)))) (1:Int)))+(1:Int)))),AV.t (tI (vI p5
 1))],[])) (again6 ([AV.t (tI (vI p5 0)),AV.t (tI (w64 (Kd IntKind.u64 (IntKind.wrap IntKind.u64 (w64 ((vI p5 0)+(vI p5 1)))) (1:Int))))],[]))) none) none) none) none) none) none) none) (cnd
 (decide (vI p5 0<((length a0:Nat):Int))=true) (cnd ((4:Nat)=(4:Nat)∧(0:Int)≤vI p5 0) (Option.bind a0[toNat (vI p5 0)]? fun y9=>cnd (okI y9 0) (cnd (okI y9 1) (cnd (okI y9 2) (cnd
 (okI y9 3) (Option.bind (AK C n (42:Nat) [tI (gI y9 0),tI (gI y9 1),tI (gI y9 2),tI (gI y9 3),tI a1,tI a2,tI a3,tI a4]) fun y10=>cnd (length y10=(1:Nat)) (cnd (okI y10 0)
 (Option.bind (AK C n (1000078:Nat) [Tree.sl (4:Nat) a0]) fun y11=>cnd (length y11=(1:Nat)∧okL 4 y11 0) (cnd ((0:Nat)=(0:Nat)∧(4:Nat)=(4:Nat)∧(0:Nat)+(length (gL y11 0))=
 length (gL y11 0)∧(length (gL y11 0))+(1:Nat)≤(1073741824:Nat)∧(0:Int)≤vI p5 0∧vI p5 0≤((length (gL y11 0):Nat):Int)∧(4:Nat)≠(1:Nat)) (some [Tree.sl (4:Nat) (take
 ((length (gL y11 0))+(1:Nat)) (((take (toNat (vI p5 0)) (gL y11 0))++[[tI a1,tI a2,tI a3,tI a4]])++(drop (toNat (vI p5 0)) (gL y11 0))))]) none) none) none) none) none)
 none) none) none) none) (Option.bind (AK C n (1000078:Nat) [Tree.sl (4:Nat) a0]) fun y12=>cnd (length y12=(1:Nat)∧okL 4 y12 0) (cnd ((0:Nat)=(0:Nat)∧(4:Nat)=(4:Nat)∧(0:Nat) +
 (length (gL y12 0))=length (gL y12 0)∧(length (gL y12 0))+(1:Nat)≤(1073741824:Nat)∧(0:Int)≤vI p5 0∧vI p5 0≤((length (gL y12 0):Nat):Int)∧(4:Nat)≠(1:Nat)) (some
 [Tree.sl (4:Nat) (take ((length (gL y12 0))+(1:Nat)) (((take (toNat (vI p5 0)) (gL y12 0))++[[tI a1,tI a2,tI a3,tI a4]])++(drop (toNat (vI p5 0)) (gL y12 0))))])
 none) none))) n ([AV.t (tI (0:Int)),AV.t (tI ((length a0:Nat):Int))],[]):=by kernel_rfl
theorem e41 (n:Nat) (a0:List (List Tree)) (a1:List (List Tree)):AK C (n+1) 41 [Tree.sl (1:Nat) a0,Tree.sl (7:Nat) a1]=
 cnd (decide (((length a0:Nat):Int)<(1:Int))=true) (some [tI (4:Int)]) (cnd (decide (((length a0:Nat):Int)>(16:Int))=true) (some [tI (4:Int)]) (cnd (decide (((length a1:Nat):Int)
 > (64:Int))=true) (some [tI (4:Int)]) (AI (fun (p2:List AV×Heap) (again3:_→Option (List Tree))=>cnd (decide (vI p2 0<((length a0:Nat):Int))=true) (cnd ((1:Nat)=(1:Nat)∧
 (0:Int)≤vI p2 0) (Option.bind a0[toNat (vI p2 0)]? fun y4=>cnd (okI y4 0) (cnd (decide (gI y4 0<(0:Int))=true) (some [tI (2:Int)]) (cnd (decide (gI y4 0>(1073741824:Int))=true) (some
 [tI (2:Int)]) (again3 ([AV.t (tI (w64 ((vI p2 0)+(1:Int))))],[])))) none) none) (AI (fun (p5:List AV×Heap) (again6:_→Option (List Tree))=>cnd (decide (vI p5 0<((length
 a1:Nat):Int))=true) (cnd ((7:Nat)=(7:Nat)∧(0:Int)≤vI p5 0) (Option.bind a1[toNat (vI p5 0)]? fun y7=>cnd (okI y7 0) (cnd (okI y7 1) (cnd (okI y7 2) (cnd (okI y7 3) (cnd (okI y7 4) (cnd
 (okI y7 5) (cnd (okI y7 6) (Option.bind (AK C n (79:Nat) [tI (gI y7 0),tI (gI y7 1),tI (gI y7 2),tI (gI y7 3),tI (gI y7 4),tI (gI y7 5),tI (gI y7 6)]) fun y8=>cnd (length y8=(1:Nat))
 (cnd (okI y8 0) (cnd (((gI y8 0) != (0:Int))=true) (some [tI (gI y8 0)]) (cnd (decide (gI y7 0≥((length a0:Nat):Int))=true) (some [tI (2:Int)]) (cnd (decide (gI y7 1≥((length
 a0:Nat):Int))=true) (some [tI (2:Int)]) (cnd ((0:Int)≤vI p5 0∧vI p5 0≤((length a1:Nat):Int)) (AI (fun (p9:List AV×Heap) (again10:_→Option (List Tree))=>cnd (decide (vI p9
 0<((length (take (toNat (vI p5 0)) a1):Nat):Int))=true) (cnd ((7:Nat)=(7:Nat)∧(0:Int)≤vI p9 0) (Option.bind (take (toNat (vI p5 0)) a1)[toNat (vI p9 0)]? fun y11
 =>cnd (okI y11 0) (cnd (okI y11 1) (cnd (okI y11 2) (cnd (okI y11 3) (cnd (okI y11 4) (cnd (okI y11 5) (cnd (okI y11 6) (Option.bind (AK C n (82:Nat) [tI (gI y7 0),tI (gI y7 1),tI (gI y7 2),tI
 (gI y7 3),tI (gI y7 4),tI (gI y7 5),tI (gI y7 6),tI (gI y11 0),tI (gI y11 1),tI (gI y11 2),tI (gI y11 3),tI (gI y11 4),tI (gI y11 5),tI (gI y11 6)]) fun y12=>cnd (length y12 =
 (1:Nat)) (cnd (okB y12 0) (cnd (gB y12 0=true) (cnd (decide (vI p9 0≥(0:Int))=true) (some [tI (14:Int)]) (again6 ([AV.t (tI (w64 ((vI p5 0)+(1:Int))))],[]))) (again10 ([AV.t (tI (w64 ((vI p9
 0)+(1:Int))))],[AE.box []]))) none) none) none) none) none) none) none) none) none) none) (again6 ([AV.t (tI (w64 ((vI p5 0)+(1:Int))))],[]))) n ([AV.t (tI (0:Int))],[AE.box []])) none))))
 none) none) none) none) none) none) none) none) none) none) (some [tI (0:Int)])) n ([AV.t (tI (0:Int))],[]))) n ([AV.t (tI (0:Int))],[])))):=by kernel_rfl
theorem e42 (n:Nat) (a0:Int) (a1:Int) (a2:Int) (a3:Int) (a4:Int) (a5:Int) (a6:Int) (a7:Int):AK C (n+1) 42 [tI a0,tI a1,tI a2,tI a3,tI a4,tI a5,tI a6,tI a7]=
 Option.bind (AK C n (35:Nat) [tI a0,tI a4]) fun y8=>cnd (length y8=(1:Nat)) (cnd (okI y8 0) (Option.bind (AK C n (35:Nat) [tI a1,tI a5]) fun y9=>cnd (length y9=(1:Nat)) (cnd
 (okI y9 0) (Option.bind (AK C n (34:Nat) [Tree.sl (1:Nat) [[tI (gI y8 0)],[tI (gI y9 0)]]]) fun y10=>cnd (length y10=(1:Nat)) (cnd (okI y10 0) (some [tI (gI y10 0)]) none) none) none)
 none) none) none:=by kernel_rfl
theorem e12 (n:Nat) (a0:List (List Tree)) (a1:List (List Tree)) (a2:List (List Tree)) (a3:Int) (a4:Int) (a5:Int) (a6:Int):AK C (n+1) 12 [Tree.sl (1:Nat) a0,Tree.sl (7:Nat) a1,Tree.sl (4:Nat) a2,tI a3,tI a4,tI a5,tI a6]=
 Option.bind (AK C n (13:Nat) [Tree.sl (1:Nat) a0,Tree.sl (7:Nat) a1,Tree.sl (4:Nat) a2]) fun y7=>cnd (length y7=(1:Nat)) (cnd (okI y7 0) (cnd (((gI y7 0) != (0:Int))=true) (some
 [Tree.sl (4:Nat) [],tI (1:Int)]) (Option.bind (AK C n (36:Nat) [Tree.sl (1:Nat) a0,Tree.sl (7:Nat) a1,tI a3,tI a4,tI a5,tI a6]) fun y8=>cnd (length y8=(1:Nat)) (cnd (okB y8 0) (cnd
 ((!(gB y8 0))=true) (some [Tree.sl (4:Nat) [],tI (2:Int)]) (cnd ((((length a2:Nat):Int)==(512:Int))=true) (some [Tree.sl (4:Nat) [],tI (4:Int)]) (Option.bind (AK C n (38:Nat) [Tree.sl
 (4:Nat) a2,tI a3]) fun y9=>cnd (length y9=(1:Nat)) (cnd (okL 2 y9 0) (AI (fun (p10:List AV×Heap) (again11:_→Option (List Tree))=>cnd (decide (vI p10 0<((length (gL y9
 0):Nat):Int))=true) (cnd ((2:Nat)=(2:Nat)∧(0:Int)≤vI p10 0) (Option.bind (gL y9 0)[toNat (vI p10 0)]? fun y12=>cnd (okI y12 0) (cnd (okI y12 1) (cnd (decide (gI y12 0<a5)=true) (cnd
 (decide (a4<gI y12 1)=true) (cnd (decide (vI p10 0≥(0:Int))=true) (some [Tree.sl (4:Nat) [],tI (14:Int)]) (Option.bind (AK C n (40:Nat) [Tree.sl (4:Nat) a2,tI a3,tI a4,tI a5,tI a6])
 fun y13=>cnd (length y13=(1:Nat)) (cnd (okL 4 y13 0) (some [Tree.sl (4:Nat) (gL y13 0),tI (0:Int)]) none) none)) (again11 ([AV.t (tI (w64 ((vI p10 0)+(1:Int))))],[]))) (again11 ([AV.t (tI
 (w64 ((vI p10 0)+(1:Int))))],[]))) none) none) none) (Option.bind (AK C n (40:Nat) [Tree.sl (4:Nat) a2,tI a3,tI a4,tI a5,tI a6]) fun y14=>cnd (length y14=(1:Nat)) (cnd (okL 4 y14 0)
 (some [Tree.sl (4:Nat) (gL y14 0),tI (0:Int)]) none) none)) n ([AV.t (tI (0:Int))],[])) none) none))) none) none)) none) none:=by kernel_rfl
theorem e13 (n:Nat) (a0:List (List Tree)) (a1:List (List Tree)) (a2:List (List Tree)):AK C (n+1) 13 [Tree.sl (1:Nat) a0,Tree.sl (7:Nat) a1,Tree.sl (4:Nat) a2]=
 Option.bind (AK C n (41:Nat) [Tree.sl (1:Nat) a0,Tree.sl (7:Nat) a1]) fun y3=>cnd (length y3=(1:Nat)) (cnd (okI y3 0) (cnd (((gI y3 0) != (0:Int))=true) (some [tI (1:Int)]) (cnd (decide
 (((length a2:Nat):Int)>(512:Int))=true) (some [tI (4:Int)]) (AI (fun (p4:List AV×Heap) (again5:_→Option (List Tree))=>cnd (decide (vI p4 0<((length a2:Nat):Int))=
 true) (cnd ((4:Nat)=(4:Nat)∧(0:Int)≤vI p4 0) (Option.bind a2[toNat (vI p4 0)]? fun y6=>cnd (okI y6 0) (cnd (okI y6 1) (cnd (okI y6 2) (cnd (okI y6 3) (Option.bind (AK C n (36:Nat)
 [Tree.sl (1:Nat) a0,Tree.sl (7:Nat) a1,tI (gI y6 0),tI (gI y6 1),tI (gI y6 2),tI (gI y6 3)]) fun y7=>cnd (length y7=(1:Nat)) (cnd (okB y7 0) (cnd ((!(gB y7 0))=true) (some [tI
 (2:Int)]) (cnd (((vI p4 0)==(0:Int))=true) (again5 ([AV.t (tI (w64 ((vI p4 0)+(1:Int))))],[])) (cnd ((4:Nat)=(4:Nat)∧(0:Int)≤w64 ((vI p4 0)-(1:Int))) (Option.bind a2[toNat (w64 ((vI
 p4 0)-(1:Int)))]? fun y8=>cnd (okI y8 0) (cnd (okI y8 1) (cnd (okI y8 2) (cnd (okI y8 3) (Option.bind (AK C n (42:Nat) [tI (gI y8 0),tI (gI y8 1),tI (gI y8 2),tI (gI y8 3),tI (gI y6 0),tI
 (gI y6 1),tI (gI y6 2),tI (gI y6 3)]) fun y9=>cnd (length y9=(1:Nat)) (cnd (okI y9 0) (cnd (decide (gI y9 0≥(0:Int))=true) (some [tI (9:Int)]) (cnd ((4:Nat)=(4:Nat)∧(0:Int)≤w64
 ((vI p4 0)-(1:Int))) (Option.bind a2[toNat (w64 ((vI p4 0)-(1:Int)))]? fun y10=>cnd (okI y10 0) (cnd (((gI y10 0)==(gI y6 0))=true) (cnd ((4:Nat)=(4:Nat)∧(0:Int)≤w64 ((vI p4 0) -
 (1:Int))) (Option.bind a2[toNat (w64 ((vI p4 0)-(1:Int)))]? fun y11=>cnd (okI y11 2) (cnd (decide (gI y6 1<gI y11 2)=true) (some [tI (14:Int)]) (again5 ([AV.t (tI (w64 ((vI p4 0) +
 (1:Int))))],[]))) none) none) (again5 ([AV.t (tI (w64 ((vI p4 0)+(1:Int))))],[]))) none) none)) none) none) none) none) none) none) none))) none) none) none) none) none) none) none) (some [tI
 (0:Int)])) n ([AV.t (tI (0:Int))],[])))) none) none:=by kernel_rfl
theorem e79 (n:Nat) (a0:Int) (a1:Int) (a2:Int) (a3:Int) (a4:Int) (a5:Int) (a6:Int):AK C (n+1) 79 [tI a0,tI a1,tI a2,tI a3,tI a4,tI a5,tI a6]=
 Option.bind (AK C n (139:Nat) [tI a0,tI (0:Int),tI (15:Int)]) fun y7=>cnd (length y7=(1:Nat)) (cnd (okB y7 0) (cnd ((!(gB y7 0))=true) (some [tI (2:Int)]) (Option.bind (AK C n
 (139:Nat) [tI a1,tI (0:Int),tI (15:Int)]) fun y8=>cnd (length y8=(1:Nat)) (cnd (okB y8 0) (cnd ((!(gB y8 0))=true) (some [tI (2:Int)]) (Option.bind (AK C n (139:Nat) [tI a4,tI
 (1:Int),tI (1000:Int)]) fun y9=>cnd (length y9=(1:Nat)) (cnd (okB y9 0) (cnd ((!(gB y9 0))=true) (some [tI (2:Int)]) (Option.bind (AK C n (139:Nat) [tI a5,tI (1:Int),tI
 (1048576:Int)]) fun y10=>cnd (length y10=(1:Nat)) (cnd (okB y10 0) (cnd ((!(gB y10 0))=true) (some [tI (2:Int)]) (Option.bind (AK C n (139:Nat) [tI a6,tI (0:Int),tI (16:Int)]) fun y11
 =>cnd (length y11=(1:Nat)) (cnd (okB y11 0) (cnd ((!(gB y11 0))=true) (some [tI (2:Int)]) (cnd ((a0==a1)=true) (some [tI (1:Int)]) (cnd (decide (a2<(0:Int))=true) (some [tI (2:Int)])
 (cnd (decide (a2≥a3)=true) (some [tI (2:Int)]) (cnd (decide (a3>w64 ((1099511627776:Int)-(w64 ((2:Int)*a5))))=true) (some [tI (2:Int)]) (some [tI (0:Int)])))))) none) none)) none) none))
 none) none)) none) none)) none) none:=by kernel_rfl
theorem e82 (n:Nat) (a0:Int) (a1:Int) (a2:Int) (a3:Int) (a4:Int) (a5:Int) (a6:Int) (a7:Int) (a8:Int) (a9:Int) (a10:Int) (a11:Int) (a12:Int) (a13:Int):AK C (n+1) 82 [tI a0,tI a1,tI a2,tI a3,tI a4,tI a5,tI a6,tI a7,tI a8,tI a9,tI a10,tI a11,tI a12,tI a13]=
 Option.bind (AK C n (79:Nat) [tI a0,tI a1,tI a2,tI a3,tI a4,tI a5,tI a6]) fun y14=>cnd (length y14=(1:Nat)) (cnd (okI y14 0) (cnd (((gI y14 0) != (0:Int))=true) (some [Tree.bool
 false]) (Option.bind (AK C n (79:Nat) [tI a7,tI a8,tI a9,tI a10,tI a11,tI a12,tI a13]) fun y15=>cnd (length y15=(1:Nat)) (cnd (okI y15 0) (cnd (((gI y15 0) != (0:Int))=true) (some
 [Tree.bool false]) (cnd ((a0 != a7)=true) (some [Tree.bool false]) (cnd ((a1 != a8)=true) (some [Tree.bool false]) (some [Tree.bool (decide ((if a9>a2 then a9 else a2)<(if a10<a3 then a10
 else a3)))])))) none) none)) none) none:=by kernel_rfl
theorem e83 (n:Nat) (a0:List (List Tree)) (a1:List (List Tree)) (a2:List (List Tree)) (a3:Int):AK C (n+1) 83 [Tree.sl (1:Nat) a0,Tree.sl (7:Nat) a1,Tree.sl (4:Nat) a2,tI a3]=
 Option.bind (AK C n (141:Nat) [Tree.sl (1:Nat) a0,Tree.sl (7:Nat) a1,Tree.sl (4:Nat) a2,tI a3]) fun y4=>cnd (length y4=(1:Nat)) (cnd (okI y4 0) (cnd (((gI y4 0) != (0:Int))=true)
 (some [Tree.sl (2:Nat) [],tI (gI y4 0)]) (cnd ((7:Nat)=(7:Nat)∧(0:Int)≤a3) (Option.bind a1[toNat a3]? fun y5=>cnd (okI y5 2) (Option.bind (AK C n (142:Nat) [Tree.sl (1:Nat) a0,Tree.sl
 (7:Nat) a1,Tree.sl (4:Nat) a2,tI a3,tI (gI y5 2)]) fun y6=>cnd (length y6=(1:Nat)) (cnd (okL 2 y6 0) (some [Tree.sl (2:Nat) (gL y6 0),tI (0:Int)]) none) none) none) none)) none) none:=by kernel_rfl
theorem e84 (n:Nat) (a0:Int) (a1:Int) (a2:Int) (a3:Int) (a4:Int) (a5:Int) (a6:Int) (a7:Int):AK C (n+1) 84 [tI a0,tI a1,tI a2,tI a3,tI a4,tI a5,tI a6,tI a7]=
 Option.bind (AK C n (143:Nat) [tI a0,tI a1,tI a2,tI a3,tI a4,tI a5,tI a6,tI a7]) fun y8=>cnd (length y8=(1:Nat)) (cnd (okI y8 0) (cnd (((gI y8 0) != (0:Int))=true) (some [tI
 (0:Int),tI (gI y8 0)]) (Option.bind (AK C n (144:Nat) [tI a0,tI a1,tI a2,tI a3,tI a4,tI a5,tI a6,tI a7]) fun y9=>cnd (length y9=(1:Nat)) (cnd (okI y9 0) (some [tI (gI y9 0),tI
 (0:Int)]) none) none)) none) none:=by kernel_rfl
theorem e139 (n:Nat) (a0:Int) (a1:Int) (a2:Int):AK C (n+1) 139 [tI a0,tI a1,tI a2]=
 cnd (decide (a0≥a1)=true) (some [Tree.bool (decide (a0≤a2))]) (some [Tree.bool false]):=by kernel_rfl
theorem e141 (n:Nat) (a0:List (List Tree)) (a1:List (List Tree)) (a2:List (List Tree)) (a3:Int):AK C (n+1) 141 [Tree.sl (1:Nat) a0,Tree.sl (7:Nat) a1,Tree.sl (4:Nat) a2,tI a3]=
 Option.bind (AK C n (13:Nat) [Tree.sl (1:Nat) a0,Tree.sl (7:Nat) a1,Tree.sl (4:Nat) a2]) fun y4=>cnd (length y4=(1:Nat)) (cnd (okI y4 0) (cnd (((gI y4 0) != (0:Int))=true) (some [tI
 (1:Int)]) (cnd (decide (a3<(0:Int))=true) (some [tI (2:Int)]) (cnd (decide (a3≥((length a1:Nat):Int))=true) (some [tI (2:Int)]) (some [tI (0:Int)])))) none) none:=by kernel_rfl
theorem e142 (n:Nat) (a0:List (List Tree)) (a1:List (List Tree)) (a2:List (List Tree)) (a3:Int) (a4:Int):AK C (n+1) 142 [Tree.sl (1:Nat) a0,Tree.sl (7:Nat) a1,Tree.sl (4:Nat) a2,tI a3,tI a4]=
 cnd ((7:Nat)=(7:Nat)∧(0:Int)≤a3) (Option.bind a1[toNat a3]? fun y5=>cnd (okI y5 0) (cnd (okI y5 1) (cnd (okI y5 2) (cnd (okI y5 3) (cnd (okI y5 4) (cnd (okI y5 5) (cnd (okI y5 6)
 (Option.bind (AK C n (38:Nat) [Tree.sl (4:Nat) a2,tI a3]) fun y6=>cnd (length y6=(1:Nat)) (cnd (okL 2 y6 0) (AI (fun (p7:List AV×Heap) (again8:_→Option (List Tree))=>cnd
 (decide (vI p7 0<((length (gL y6 0):Nat):Int))=true) (cnd ((2:Nat)=(2:Nat)∧(0:Int)≤vI p7 0) (Option.bind (gL y6 0)[toNat (vI p7 0)]? fun y9=>cnd (okI y9 0) (cnd (okI y9 1) (cnd
 (decide (cI p7 3 0<gI y9 0)=true) (cnd (AO p7 1=AL p7 2 0∧((2:Nat)=(2:Nat)∨(2:Nat)=(0:Nat))∧(AP p7 2 0)+(AM p7 2 0)≤length (oEs p7 1)∧(AM p7 2 0)+(1:Nat)≤
 (1073741824:Nat)) (again8 ([AV.t (tI (w64 ((vI p7 0)+(1:Int))))],[AE.box [],AE.row false ((AL p7 2 0)+(1:Nat)) (2:Nat) ((take (AM p7 2 0) (drop (AP p7 2 0) (oEs p7 1))) ++
 [[tI (cI p7 3 0),tI (gI y9 0)]]),AE.box [AV.sref (1:Nat) ((AL p7 2 0)+(1:Nat)) (0:Nat) ((AM p7 2 0)+(1:Nat))],AE.box [AV.t (tI (if gI y9 1>cI p7 3 0 then gI y9 1 else cI p7 3 0))]]))
 none) (again8 ([AV.t (tI (w64 ((vI p7 0)+(1:Int))))],[AE.box [],AE.row false (AO p7 1) (2:Nat) (oEs p7 1),AE.box [AV.sref (1:Nat) (AL p7 2 0) (AP p7 2 0) (AM p7 2 0)],AE.box
 [AV.t (tI (if gI y9 1>cI p7 3 0 then gI y9 1 else cI p7 3 0))]]))) none) none) none) (cnd (decide (cI p7 3 0<gI y5 3)=true) (cnd (AO p7 1=AL p7 2 0∧((2:Nat)=(2:Nat)∨(2:Nat)=
 (0:Nat))∧(AP p7 2 0)+(AM p7 2 0)≤length (oEs p7 1)∧(AM p7 2 0)+(1:Nat)≤(1073741824:Nat)) (cnd ((false=true∨false=false)∧(AL p7 2 0)+(1:Nat)=(AL p7 2 0)+(1:Nat)
 ∧((2:Nat)=(2:Nat)∨(2:Nat)=(0:Nat))) (some [Tree.sl (2:Nat) (take ((AM p7 2 0)+(1:Nat)) ((take (AM p7 2 0) (drop (AP p7 2 0) (oEs p7 1)))++[[tI (cI p7 3 0),tI (gI y5
 3)]]))]) none) none) (cnd ((false=true∨false=false)∧AO p7 1=AL p7 2 0∧((2:Nat)=(2:Nat)∨(2:Nat)=(0:Nat))) (some [Tree.sl (2:Nat) (take (AM p7 2 0) (drop (AP p7 2 0)
 (oEs p7 1)))]) none))) n ([AV.t (tI (0:Int))],[AE.box [],AE.row false (0:Nat) (2:Nat) [],AE.box [AV.sref (1:Nat) (0:Nat) (0:Nat) (0:Nat)],AE.box [AV.t (tI (if a4>gI y5 2 then a4 else gI
 y5 2))]])) none) none) none) none) none) none) none) none) none) none:=by kernel_rfl
theorem e143 (n:Nat) (a0:Int) (a1:Int) (a2:Int) (a3:Int) (a4:Int) (a5:Int) (a6:Int) (a7:Int):AK C (n+1) 143 [tI a0,tI a1,tI a2,tI a3,tI a4,tI a5,tI a6,tI a7]=
 Option.bind (AK C n (79:Nat) [tI a0,tI a1,tI a2,tI a3,tI a4,tI a5,tI a6]) fun y8=>cnd (length y8=(1:Nat)) (cnd (okI y8 0) (cnd (((gI y8 0) != (0:Int))=true) (some [tI (1:Int)])
 (Option.bind (AK C n (139:Nat) [tI a7,tI (1:Int),tI (65536:Int)]) fun y9=>cnd (length y9=(1:Nat)) (cnd (okB y9 0) (cnd ((!(gB y9 0))=true) (some [tI (2:Int)]) (some [tI (0:Int)]))
 none) none)) none) none:=by kernel_rfl
theorem e144 (n:Nat) (a0:Int) (a1:Int) (a2:Int) (a3:Int) (a4:Int) (a5:Int) (a6:Int) (a7:Int):AK C (n+1) 144 [tI a0,tI a1,tI a2,tI a3,tI a4,tI a5,tI a6,tI a7]=
 Option.bind (AK C n (184:Nat) [tI a0,tI a1,tI a2,tI a3,tI a4,tI a5,tI a6,tI a7]) fun y8=>cnd (length y8=(1:Nat)) (cnd (okI y8 0) (Option.bind (AK C n (185:Nat) [tI a0,tI a1,tI
 a2,tI a3,tI a4,tI a5,tI a6,tI (16:Int)]) fun y9=>cnd (length y9=(1:Nat)) (cnd (okI y9 0) (some [tI (w64 ((gI y8 0)+(w64 (a6*(w64 ((w64 ((w64 ((2:Int)*a5))+(1:Int)))+(gI y9
 0)))))))]) none) none) none) none:=by kernel_rfl
theorem e184 (n:Nat) (a0:Int) (a1:Int) (a2:Int) (a3:Int) (a4:Int) (a5:Int) (a6:Int) (a7:Int):AK C (n+1) 184 [tI a0,tI a1,tI a2,tI a3,tI a4,tI a5,tI a6,tI a7]=
 AI (fun (p8:List AV×Heap) (again9:_→Option (List Tree))=>cnd (decide (vI p8 0>(0:Int))=true) (Option.bind (AK C n (185:Nat) [tI a0,tI a1,tI a2,tI a3,tI a4,tI a5,tI a6,tI
 (if (16:Int)<vI p8 0 then (16:Int) else vI p8 0)]) fun y10=>cnd (length y10=(1:Nat)) (cnd (okI y10 0) (again9 ([AV.t (tI (w64 ((vI p8 0)-(16:Int))))],[AE.box [AV.t (tI (w64 ((cI p8 0
 0)+(gI y10 0))))],AE.box []])) none) none) (some [tI (cI p8 0 0)])) n ([AV.t (tI a7)],[AE.box [AV.t (tI (0:Int))],AE.box []]):=by kernel_rfl
theorem e185 (n:Nat) (a0:Int) (a1:Int) (a2:Int) (a3:Int) (a4:Int) (a5:Int) (a6:Int) (a7:Int):AK C (n+1) 185 [tI a0,tI a1,tI a2,tI a3,tI a4,tI a5,tI a6,tI a7]=
 cnd (a4=(0:Int)) none (some [tI (w64 (Int.tdiv (w64 ((w64 ((w64 (a7+(8:Int)))+a4))-(1:Int))) a4))]):=by kernel_rfl
theorem e197 (n:Nat) (a0:Int) (a1:Int) (a2:Int) (a3:Int) (a4:Int) (a5:Int) (a6:Int) (a7:Int) (a8:Int):AK C (n+1) 197 [tI a0,tI a1,tI a2,tI a3,tI a4,tI a5,tI a6,tI a7,tI a8]=
 cnd (decide (a7≥a2)=true) (Option.bind (AK C n (144:Nat) [tI a0,tI a1,tI a2,tI a3,tI a4,tI a5,tI a6,tI a8]) fun y9=>cnd (length y9=(1:Nat)) (cnd (okI y9 0) (some [Tree.bool
 (decide (a7≤w64 (a3-(gI y9 0))))]) none) none) (some [Tree.bool false]):=by kernel_rfl
theorem e15 (n:Nat) (a0:List (List Tree)) (a1:List (List Tree)):AK C (n+1) 15 [Tree.sl (1:Nat) a0,Tree.sl (7:Nat) a1]=
 cnd (decide (((length a0:Nat):Int)<(1:Int))=true) (some [tI (4:Int)]) (cnd (decide (((length a0:Nat):Int)>(16:Int))=true) (some [tI (4:Int)]) (cnd (decide (((length a1:Nat):Int)
 > (64:Int))=true) (some [tI (4:Int)]) (AI (fun (p2:List AV×Heap) (again3:_→Option (List Tree))=>cnd (decide (vI p2 0<((length a0:Nat):Int))=true) (cnd ((1:Nat)=(1:Nat)∧
 (0:Int)≤vI p2 0) (Option.bind a0[toNat (vI p2 0)]? fun y4=>cnd (okI y4 0) (cnd (decide (gI y4 0<(0:Int))=true) (some [tI (2:Int)]) (cnd ((1:Nat)=(1:Nat)∧(0:Int)≤vI p2 0) (Option.bind
 a0[toNat (vI p2 0)]? fun y5=>cnd (okI y5 0) (cnd (decide (gI y5 0>(1073741824:Int))=true) (some [tI (2:Int)]) (again3 ([AV.t (tI (w64 ((vI p2 0)+(1:Int))))],[]))) none) none)) none) none)
 (AI (fun (p6:List AV×Heap) (again7:_→Option (List Tree))=>cnd (decide (vI p6 0<((length a1:Nat):Int))=true) (cnd ((7:Nat)=(7:Nat)∧(0:Int)≤vI p6 0) (Option.bind
 a1[toNat (vI p6 0)]? fun y8=>cnd (okI y8 0) (cnd (okI y8 1) (cnd (okI y8 2) (cnd (okI y8 3) (cnd (okI y8 4) (cnd (okI y8 5) (cnd (okI y8 6) (Option.bind (AK C n (43:Nat) [tI (gI y8 0),tI (gI
 y8 1),tI (gI y8 2),tI (gI y8 3),tI (gI y8 4),tI (gI y8 5),tI (gI y8 6)]) fun y9=>cnd (length y9=(1:Nat)) (cnd (okI y9 0) (cnd (((gI y9 0) != (0:Int))=true) (some [tI (gI y9 0)]) (cnd
 (decide (gI y8 0≥((length a0:Nat):Int))=true) (some [tI (2:Int)]) (cnd (decide (gI y8 1≥((length a0:Nat):Int))=true) (some [tI (2:Int)]) (AI (fun (p10:List AV×Heap)
 (again11:_→Option (List Tree))=>cnd (decide (vI p10 0<vI p6 0)=true) (cnd ((7:Nat)=(7:Nat)∧(0:Int)≤vI p10 0) (Option.bind a1[toNat (vI p10 0)]? fun y12=>cnd (okI y12 0) (cnd (okI
 y12 1) (cnd (okI y12 2) (cnd (okI y12 3) (cnd (okI y12 4) (cnd (okI y12 5) (cnd (okI y12 6) (Option.bind (AK C n (44:Nat) [tI (gI y12 0),tI (gI y12 1),tI (gI y12 2),tI (gI y12 3),tI (gI y12 4),
 tI (gI y12 5),tI (gI y12 6),tI (gI y8 0),tI (gI y8 1),tI (gI y8 2),tI (gI y8 3),tI (gI y8 4),tI (gI y8 5),tI (gI y8 6)]) fun y13=>cnd (length y13=(1:Nat)) (cnd (okB y13 0) (cnd (gB
 y13 0=true) (some [tI (14:Int)]) (again11 ([AV.t (tI (w64 ((vI p10 0)+(1:Int))))],[AE.box []]))) none) none) none) none) none) none) none) none) none) none) (again7 ([AV.t (tI (w64 ((vI p6 0) +
 (1:Int))))],[]))) n ([AV.t (tI (0:Int))],[AE.box []]))))) none) none) none) none) none) none) none) none) none) none) (some [tI (0:Int)])) n ([AV.t (tI (0:Int))],[]))) n ([AV.t (tI (0:Int))],
 [])))):=by kernel_rfl
theorem e43 (n:Nat) (a0:Int) (a1:Int) (a2:Int) (a3:Int) (a4:Int) (a5:Int) (a6:Int):AK C (n+1) 43 [tI a0,tI a1,tI a2,tI a3,tI a4,tI a5,tI a6]=
 cnd (decide (a0<(0:Int))=true) (some [tI (2:Int)]) (cnd (decide (a0≥(16:Int))=true) (some [tI (2:Int)]) (cnd (decide (a1<(0:Int))=true) (some [tI (2:Int)]) (cnd (decide (a1≥(16:Int))=
 true) (some [tI (2:Int)]) (cnd (decide (a4<(1:Int))=true) (some [tI (2:Int)]) (cnd (decide (a4>(1000:Int))=true) (some [tI (2:Int)]) (cnd (decide (a5<(1:Int))=true) (some [tI (2:Int)])
 (cnd (decide (a5>(1048576:Int))=true) (some [tI (2:Int)]) (cnd (decide (a6<(0:Int))=true) (some [tI (2:Int)]) (cnd (decide (a6>(16:Int))=true) (some [tI (2:Int)]) (cnd ((a0==a1)=true)
 (some [tI (1:Int)]) (cnd (decide (a2<(0:Int))=true) (some [tI (2:Int)]) (cnd (decide (a2≥a3)=true) (some [tI (2:Int)]) (cnd (decide (a3>w64 ((1099511627776:Int)-(w64 ((2:Int)*a5))))=
 true) (some [tI (2:Int)]) (some [tI (0:Int)])))))))))))))):=by kernel_rfl
theorem e44 (n:Nat) (a0:Int) (a1:Int) (a2:Int) (a3:Int) (a4:Int) (a5:Int) (a6:Int) (a7:Int) (a8:Int) (a9:Int) (a10:Int) (a11:Int) (a12:Int) (a13:Int):AK C (n+1) 44 [tI a0,tI a1,tI a2,tI a3,tI a4,tI a5,tI a6,tI a7,tI a8,tI a9,tI a10,tI a11,tI a12,tI a13]=
 Option.bind (AK C n (43:Nat) [tI a0,tI a1,tI a2,tI a3,tI a4,tI a5,tI a6]) fun y14=>cnd (length y14=(1:Nat)) (cnd (okI y14 0) (cnd (((gI y14 0)==(0:Int))=true) (Option.bind (AK
 C n (43:Nat) [tI a7,tI a8,tI a9,tI a10,tI a11,tI a12,tI a13]) fun y15=>cnd (length y15=(1:Nat)) (cnd (okI y15 0) (cnd (((gI y15 0)==(0:Int))=true) (cnd ((a0==a7)=true) (cnd ((a1
 == a8)=true) (cnd (decide (a2<a10)=true) (some [Tree.bool (decide (a9<a3))]) (some [Tree.bool false])) (some [Tree.bool false])) (some [Tree.bool false])) (some [Tree.bool false])) none) none)
 (some [Tree.bool false])) none) none:=by kernel_rfl
theorem e56 (n:Nat) (a0:List (List Tree)) (a1:List (List Tree)):AK C (n+1) 56 [Tree.sl (1:Nat) a0,Tree.sl (7:Nat) a1]=
 cnd (decide (((length a0:Nat):Int)>(6:Int))=true) (some [Tree.bool true]) (some [Tree.bool (decide (((length a1:Nat):Int)>(10:Int)))]):=by kernel_rfl
theorem e57 (n:Nat) (a0:List (List Tree)) (a1:List (List Tree)) (a2:List (List Tree)):AK C (n+1) 57 [Tree.sl (1:Nat) a0,Tree.sl (7:Nat) a1,Tree.sl (4:Nat) a2]=
 Option.bind (AK C n (15:Nat) [Tree.sl (1:Nat) a0,Tree.sl (7:Nat) a1]) fun y3=>cnd (length y3=(1:Nat)) (cnd (okI y3 0) (cnd (((gI y3 0) != (0:Int))=true) (some [tI (1:Int)]) (cnd (decide
 (((length a2:Nat):Int)>(512:Int))=true) (some [tI (4:Int)]) (AI (fun (p4:List AV×Heap) (again5:_→Option (List Tree))=>cnd (decide (vI p4 0<((length a2:Nat):Int))=
 true) (cnd ((4:Nat)=(4:Nat)∧(0:Int)≤vI p4 0) (Option.bind a2[toNat (vI p4 0)]? fun y6=>cnd (okI y6 0) (cnd (okI y6 1) (cnd (okI y6 2) (cnd (okI y6 3) (Option.bind (AK C n (108:Nat)
 [Tree.sl (1:Nat) a0,Tree.sl (7:Nat) a1,tI (gI y6 0),tI (gI y6 1),tI (gI y6 2),tI (gI y6 3)]) fun y7=>cnd (length y7=(1:Nat)) (cnd (okB y7 0) (cnd ((!(gB y7 0))=true) (some [tI
 (2:Int)]) (cnd (((vI p4 0)==(0:Int))=true) (again5 ([AV.t (tI (w64 ((vI p4 0)+(1:Int))))],[])) (cnd ((4:Nat)=(4:Nat)∧(0:Int)≤vI p4 0) (Option.bind a2[toNat (vI p4 0)]? fun y8=>cnd
 (okI y8 0) (cnd ((4:Nat)=(4:Nat)∧(0:Int)≤w64 ((vI p4 0)-(1:Int))) (Option.bind a2[toNat (w64 ((vI p4 0)-(1:Int)))]? fun y9=>cnd (okI y9 0) (cnd (decide (gI y8 0>gI y9 0)=true)
 (again5 ([AV.t (tI (w64 ((vI p4 0)+(1:Int))))],[])) (cnd ((4:Nat)=(4:Nat)∧(0:Int)≤vI p4 0) (Option.bind a2[toNat (vI p4 0)]? fun y10=>cnd (okI y10 0) (cnd ((4:Nat)=(4:Nat)∧(0:Int)≤
 w64 ((vI p4 0)-(1:Int))) (Option.bind a2[toNat (w64 ((vI p4 0)-(1:Int)))]? fun y11=>cnd (okI y11 0) (cnd (decide (gI y10 0<gI y11 0)=true) (some [tI (9:Int)]) (cnd ((4:Nat)=(4:Nat)∧
 (0:Int)≤vI p4 0) (Option.bind a2[toNat (vI p4 0)]? fun y12=>cnd (okI y12 1) (cnd ((4:Nat)=(4:Nat)∧(0:Int)≤w64 ((vI p4 0)-(1:Int))) (Option.bind a2[toNat (w64 ((vI p4 0) -
 (1:Int)))]? fun y13=>cnd (okI y13 1) (cnd (decide (gI y12 1≤gI y13 1)=true) (some [tI (9:Int)]) (cnd ((4:Nat)=(4:Nat)∧(0:Int)≤vI p4 0) (Option.bind a2[toNat (vI p4 0)]? fun y14=>cnd
 (okI y14 1) (cnd ((4:Nat)=(4:Nat)∧(0:Int)≤w64 ((vI p4 0)-(1:Int))) (Option.bind a2[toNat (w64 ((vI p4 0)-(1:Int)))]? fun y15=>cnd (okI y15 2) (cnd (decide (gI y14 1<gI y15 2)=true)
 (some [tI (14:Int)]) (again5 ([AV.t (tI (w64 ((vI p4 0)+(1:Int))))],[]))) none) none) none) none)) none) none) none) none)) none) none) none) none)) none) none) none) none))) none) none) none)
 none) none) none) none) (some [tI (0:Int)])) n ([AV.t (tI (0:Int))],[])))) none) none:=by kernel_rfl
theorem e108 (n:Nat) (a0:List (List Tree)) (a1:List (List Tree)) (a2:Int) (a3:Int) (a4:Int) (a5:Int):AK C (n+1) 108 [Tree.sl (1:Nat) a0,Tree.sl (7:Nat) a1,tI a2,tI a3,tI a4,tI a5]=
 cnd (decide (a2<(0:Int))=true) (some [Tree.bool false]) (cnd (decide (a2≥((length a1:Nat):Int))=true) (some [Tree.bool false]) (cnd (decide (a5<(0:Int))=true) (some [Tree.bool false])
 (cnd (decide (a5>(1152921504606846976:Int))=true) (some [Tree.bool false]) (cnd ((7:Nat)=(7:Nat)∧(0:Int)≤a2) (Option.bind a1[toNat a2]? fun y6=>cnd (okI y6 0) (cnd (okI y6 1) (cnd (okI
 y6 2) (cnd (okI y6 3) (cnd (okI y6 4) (cnd (okI y6 5) (cnd (okI y6 6) (cnd (decide (gI y6 2≤a3)=true) (cnd (decide (a3<a4)=true) (some [Tree.bool (decide (a4≤gI y6 3))]) (some [Tree.bool
 false])) (some [Tree.bool false])) none) none) none) none) none) none) none) none)))):=by kernel_rfl
theorem Vp (n:Nat) (a0:List (List Tree)):AK C (n+1) 1000078 [Tree.sl (4:Nat) a0]=
 cnd (length a0≠(0:Nat)) (cnd (length a0≤(1073741824:Nat)) (some [Tree.sl (4:Nat) (take (length a0) a0)]) none) (both (some [Tree.sl (4:Nat) []]) (cnd (length a0≤
 (1073741824:Nat)) (some [Tree.sl (4:Nat) (take (length a0) a0)]) none)):=by kernel_rfl
end Ab
namespace Ab
open Go
variable {R S α σ Q:Type}
theorem wrapU64 (x:Int):IntKind.wrap .u64 x=x % 18446744073709551616:=by simp only [IntKind.wrap,IntKind.signed,IntKind.bits];simp
theorem halfU (a b:Nat) (h:a+b<4611686018427387904):w64 (Kd .u64 (IntKind.wrap .u64 (w64 ((a:Int)+(b:Int)))) 1)=(((a+b) / 2:Nat):Int):=by
 have e1:IntKind.wrap .u64 (w64 ((a:Int)+(b:Int)))=((a+b:Nat):Int):=by rw [Ay (by omega) (by omega),wrapU64];omega
 have e2:Kd .u64 ((a+b:Nat):Int) 1=(((a+b) / 2:Nat):Int):=by show Int.fdiv ((a+b:Nat):Int) (2 ^ min (toNat 1) (IntKind.bits .u64))=_;rw [show (2:Int) ^ min (toNat 1) (IntKind.bits .u64)=2 from rfl,Int.fdiv_eq_ediv_of_nonneg _ (by omega)];omega
 rw [e1,e2,Ay (by omega) (by omega)]
def E4 (lt:α→Bool) (l:List α) (fin:Nat→Q) (s:Nat×Nat):Rd (Nat×Nat) Q:=
 if s.1<s.2 then match l[(s.1+s.2) / 2]? with
  |some x=>if lt x=true then .next ((s.1+s.2) / 2+1,s.2) else .next (s.1,(s.1+s.2) / 2)
  |none =>.next (s.2,s.2)
 else .done (fin s.1)
def BsInv (lt:α→Bool) (l:List α) (s:Nat×Nat):Prop:=s.1≤s.2∧s.2≤l.length∧(∀(j:Nat) x,j<s.1→l[j]? = some x→lt x=true)∧∀(j:Nat) x,s.2≤j→l[j]? = some x→lt x=false
theorem Nt {lt:α→Bool} {l:List α} {k:Nat} (hk:k≤l.length) (h1:∀(j:Nat) x,j<k→l[j]? = some x→lt x=true) (h2:∀(j:Nat) x,k≤j→l[j]? = some x→lt x=false):k=l.countP lt:=by
 conv=>rhs;rw [← List.take_append_drop k l]
 rw [List.countP_append,List.countP_eq_length.2,List.countP_eq_zero.2]
 ·simp;omega
 ·intro x hx;obtain ⟨j,hj⟩:=mem_iff_getElem?.1 hx;rw [getElem?_drop] at hj;simp [h2 _ _ (by omega) hj]
 ·intro x hx;obtain ⟨j,hj⟩:=mem_iff_getElem?.1 hx;have hjk:j<k:=by have:=AJ hj;simp at this;omega
  rw [getElem?_take_of_lt hjk] at hj;exact h1 _ _ hjk hj
def Down (lt:α→Bool) (l:List α):Prop:=∀(i j:Nat) x y,i≤j→l[i]? = some x→l[j]? = some y→lt y=true→lt x=true
theorem WG {Z:Type} {B:Nat→Z→S→(S→Option R)→Option R} {s:S} (out:Z→Q→Option R) (lt:α→Bool) (l:List α) (fin:Nat→Q) (st:Nat×Nat→S) (hd:Down lt l) (hs:s=st (0,l.length))
  (hstep:∀s,s.1≤s.2→s.2≤l.length→(¬s.1<s.2→s.1=l.countP lt)→Ev fun n=>∀z again,B n z (st s) again=(E4 lt l fin s).go (fun s'=>again (st s')) (out z)) :
  Ev fun n=>∀z,AI (B n z) n s=out z (fin (l.countP lt)):=by
 refine E8 (r:=fin (l.countP lt)) out st (E4 lt l fin) (BsInv lt l) (fun s=>s.2-s.1) (fun _=>fin (l.countP lt)) (0,l.length) hs ⟨by simp,by simp,fun j x h=>by simp at h,fun j x h hx=>by have:=AJ hx;simp at h;omega⟩ rfl
  (fun s hI=>hstep s hI.1 hI.2.1 fun hn => ?_) (fun s s' hI hs' => ?_) (fun s hI => ?_)
 ·obtain ⟨a,b⟩:=s;obtain ⟨i1,i2,i3,i4⟩:=hI;simp only at i1 i2 i3 i4 hn ⊢;obtain rfl:a=b:=by omega
  exact Nt i2 i3 i4
 ·obtain ⟨a,b⟩:=s;obtain ⟨i1,i2,i3,i4⟩:=hI;simp only at i1 i2 i3 i4;unfold E4 at hs';simp only at hs';split at hs'
  ·rename_i hab;split at hs'
   ·rename_i x hx;split at hs'
    ·rename_i hxe;cases hs';refine ⟨⟨by simp only;omega,i2,fun j y hj hy => ?_,i4⟩,by simp only;omega⟩;simp only at hj;exact hd j ((a+b) / 2) y x (by omega) hy hx hxe
    ·rename_i hxe;cases hs';refine ⟨⟨by simp only;omega,by simp only;omega,i3,fun j y hj hy => ?_⟩,by simp only;omega⟩;simp only at hj;cases hye:lt y with
     |false=>rfl
     |true=>exact absurd (hd ((a+b) / 2) j x y hj hx hy hye) hxe
   ·rename_i hx;rw [getElem?_eq_getElem (by omega)] at hx;cases hx
  ·cases hs'
 ·obtain ⟨a,b⟩:=s;obtain ⟨i1,i2,i3,i4⟩:=hI;simp only at i1 i2 i3 i4;unfold E4;simp only;split
  ·split
   ·split<;>rfl
   ·rfl
  ·obtain rfl:a=b:=by omega
   simp only [Rd.fin];rw [← Nt i2 i3 i4]
theorem TK {B:Nat→S→(S→Option R)→Option R} {s:S} (out:Q→R) (lt:α→Bool) (l:List α) (fin:Nat→Q) (st:Nat×Nat→S) (hd:Down lt l) (hs:s=st (0,l.length))
  (hstep:∀s,s.1≤s.2→s.2≤l.length→(¬s.1<s.2→s.1=l.countP lt)→Ev fun n=>∀again,B n (st s) again=(E4 lt l fin s).go (fun s'=>again (st s')) (fun q=>some (out q))) :
  Ev fun n=>AI (B n) n s=some (out (fin (l.countP lt))):=
 (WG (Z:=Unit) (B:=fun n _=>B n) (fun _ q=>some (out q)) lt l fin st hd hs fun s h1 h2 h3=>(hstep s h1 h2 h3).mono fun n h _=>h).mono fun n h=>h ()
theorem G5 {lt:α→Bool}:∀{l:List α},Down lt l→l.take (l.countP lt)=l.takeWhile lt∧l.drop (l.countP lt)=l.dropWhile lt
 |[],_=>⟨rfl,rfl⟩
 |x::l,hd=>by
  have hd':Down lt l:=fun i j a b hij ha hb h=>hd (i+1) (j+1) a b (by omega) (by simpa using ha) (by simpa using hb) h;obtain ⟨h1,h2⟩:=G5 hd';cases hx:lt x with
  |true=>simp [hx,h1,h2]
  |false=>
   have hz:l.countP lt=0:=by rw [List.countP_eq_zero];intro y hy hly;obtain ⟨j,hj⟩:=mem_iff_getElem?.1 hy;have:=hd 0 (j+1) x y (by omega) rfl (by simpa using hj) hly;rw [hx] at this;cases this
   simp [hx,hz]
def Fi (g:α→Bool) (b:α):List α→List α
 |[]=>[b]
 |x::l=>if g x=true then b::x::l else x::Fi g b l
theorem Og (g:α→Bool) (b:α):∀(l:List α),Fi g b l=l.takeWhile (fun x => !g x)++b::l.dropWhile (fun x => !g x)
 |[]=>rfl
 |x::l=>by
  unfold Fi;cases h:g x with
  |true=>simp [h]
  |false=>simp [h,Og g b l]
theorem Ey (g:α→Bool) (b:α):∀(l:List α) (x:α),x∈Fi g b l↔x=b∨x∈l
 |[],x=>by simp [Fi]
 |y::l,x=>by
  unfold Fi;split
  ·simp
  ·rw [mem_cons,Ey g b l,mem_cons];constructor
   ·rintro (h|h|h)
    ·exact .inr (.inl h)
    ·exact .inl h
    ·exact .inr (.inr h)
   ·rintro (h|h|h)
    ·exact .inr (.inl h)
    ·exact .inl h
    ·exact .inr (.inr h)
theorem I8 (g:α→Bool) (b:α):∀(l:List α),(Fi g b l).length=l.length+1
 |[]=>rfl
 |y::l=>by
  unfold Fi;split
  ·simp
  ·simp [I8 g b l]
theorem H2 {Rl:α→α→Prop} {g:α→Bool} {b:α}:∀{l:List α},l.Pairwise Rl→(∀x∈l,g x=true→Rl b x)→(∀x∈l,g x=false→Rl x b)→(∀x∈l,∀y∈l,Rl x y→g x=true→g y=true)→(Fi g b l).Pairwise Rl
 |[],_,_,_,_=>by simp [Fi]
 |x::l,hp,h1,h2,h3=>by
  rw [pairwise_cons] at hp;unfold Fi;split
  ·rename_i hg;rw [pairwise_cons];refine ⟨fun y hy => ?_,pairwise_cons.2 hp⟩;rcases mem_cons.1 hy with rfl|hm
   ·exact h1 _ (by simp) hg
   ·exact h1 y hy (h3 x (by simp) y hy (hp.1 y hm) hg)
  ·rename_i hg;rw [pairwise_cons];refine ⟨fun y hy => ?_,H2 hp.2 (fun y hy=>h1 y (by simp [hy])) (fun y hy=>h2 y (by simp [hy])) fun y hy z hz=>h3 y (by simp [hy]) z (by simp [hz])⟩;rcases (Ey g b l y).1 hy with rfl|hy
   ·exact h2 x (by simp) (by simpa using hg)
   ·exact hp.1 y hy
theorem QG (p:α→Bool):∀(l:List α) (i:Nat),A6 (fun i (_:Unit) (x:α)=>if p x=true then .done (i:Int) else .next ()) (fun _=>(-1:Int)) i l ()=((l.findIdx? p).map fun j=>((i+j:Nat):Int)).getD (-1)
 |[],i=>rfl
 |x::l,i=>by
  cases hx:p x with
  |true=>simp [A6,hx,List.findIdx?_cons]
  |false=>
   simp only [A6,hx,List.findIdx?_cons];have:=QG p l (i+1);simp only [false_eq_true,if_false] at this ⊢;rw [this,Option.map_map];congr 2;funext j;simp only [Function.comp_apply];omega
def idx (p:α→Bool) (l:List α):Int:=((l.findIdx? p).map fun j=>((j:Nat):Int)).getD (-1)
theorem Jy (p:α→Bool) (l:List α):A6 (fun i (_:Unit) (x:α)=>if p x=true then .done (i:Int) else .next ()) (fun _=>(-1:Int)) 0 l ()=idx p l:=by have:=QG p l 0;simpa [idx] using this
theorem L2 (p:α→Bool) (l:List α):0≤idx p l↔l.any p=true:=by
 unfold idx;cases h:l.findIdx? p with
 |none=>
  rw [List.findIdx?_eq_none_iff] at h;simp only [map_none,getD_none];constructor
  ·intro h;omega
  ·intro h2;rw [any_eq_true] at h2;obtain ⟨x,hx,hp⟩:=h2;simp [h x hx] at hp
 |some j=>
  simp only [map_some,Option.getD_some];rw [List.findIdx?_eq_some_iff_getElem] at h;obtain ⟨h1,h2,_⟩:=h;constructor
  ·intro _;rw [any_eq_true];exact ⟨_,getElem_mem h1,h2⟩
  ·intro _;omega
end Ab
namespace Ab
open Go
theorem vv :
  (∀(e:List AV) (h:Heap) (k:Nat),oMs (e,h) k=Lq (List.getD h k default))∧
  (∀(k ke:IntKind) (es:List (Int×Int)),Lq (.mapo k ke es)=es)∧
  (∀(e:List AV) (h:Heap) (k:Nat),vI (e,h) k=intOf (A2 (List.getD e k AV.undef)))∧
  (∀(e:List AV) (h:Heap) (k:Nat),vB (e,h) k=Cq (A2 (List.getD e k AV.undef)))∧
  (∀(e:List AV) (h:Heap) (k:Nat),vS (e,h) k=strOf (A2 (List.getD e k AV.undef)))∧
  (∀(e:List AV) (h:Heap) (k:Nat),vL (e,h) k=Fa (A2 (List.getD e k AV.undef)))∧
  (∀(e:List AV) (h:Heap) (k:Nat),Bu (e,h) k=E9 (List.getD e k AV.undef))∧
  (∀(e:List AV) (h:Heap) (k:Nat),C8 (e,h) k=Hu (List.getD e k AV.undef))∧
  (∀(e:List AV) (h:Heap) (k:Nat),Av (e,h) k=Hv (List.getD e k AV.undef))∧
  (∀(e:List AV) (h:Heap) (k:Nat),AO (e,h) k=AE.ver (List.getD h k default))∧
  (∀(e:List AV) (h:Heap) (k:Nat),oEs (e,h) k=Rs (List.getD h k default))∧
  (∀(e:List AV) (h:Heap) (k j:Nat),cI (e,h) k j=intOf (A2 (cellOf (List.getD h k default) j)))∧
  (∀(e:List AV) (h:Heap) (k j:Nat),cB (e,h) k j=Cq (A2 (cellOf (List.getD h k default) j)))∧
  (∀(e:List AV) (h:Heap) (k j:Nat),cS (e,h) k j=strOf (A2 (cellOf (List.getD h k default) j)))∧
  (∀(e:List AV) (h:Heap) (k j:Nat),cL (e,h) k j=Fa (A2 (cellOf (List.getD h k default) j)))∧
  (∀(e:List AV) (h:Heap) (k j:Nat),AL (e,h) k j=E9 (cellOf (List.getD h k default) j))∧
  (∀(e:List AV) (h:Heap) (k j:Nat),AP (e,h) k j=Hu (cellOf (List.getD h k default) j))∧
  (∀(e:List AV) (h:Heap) (k j:Nat),AM (e,h) k j=Hv (cellOf (List.getD h k default) j))∧
  (∀(x:Tree) (l:List Tree),gI (x::l) (0:Nat)=intOf x)∧
  (∀(x:Tree) (l:List Tree) (k:Nat),gI (x::l) (k+(1:Nat))=gI l k)∧
  (∀(x:Tree) (l:List Tree),gB (x::l) (0:Nat)=Cq x)∧
  (∀(x:Tree) (l:List Tree) (k:Nat),gB (x::l) (k+(1:Nat))=gB l k)∧
  (∀(x:Tree) (l:List Tree),gS (x::l) (0:Nat)=strOf x)∧
  (∀(x:Tree) (l:List Tree) (k:Nat),gS (x::l) (k+(1:Nat))=gS l k)∧
  (∀(x:Tree) (l:List Tree),gL (x::l) (0:Nat)=Fa x)∧
  (∀(x:Tree) (l:List Tree) (k:Nat),gL (x::l) (k+(1:Nat))=gL l k)∧
  (∀(x:Tree) (l:List Tree),okI (x::l) (0:Nat)=(FU IntKind.i64 x=true))∧
  (∀(x:Tree) (l:List Tree) (k:Nat),okI (x::l) (k+(1:Nat))=okI l k)∧
  (∀(x:Tree) (l:List Tree),okB (x::l) (0:Nat)=(EJ x=true))∧
  (∀(x:Tree) (l:List Tree) (k:Nat),okB (x::l) (k+(1:Nat))=okB l k)∧
  (∀(x:Tree) (l:List Tree),okS (x::l) (0:Nat)=(FT x=true))∧
  (∀(x:Tree) (l:List Tree) (k:Nat),okS (x::l) (k+(1:Nat))=okS l k)∧
  (∀(z:Nat) (x:Tree) (l:List Tree),okL z (x::l) (0:Nat)=(FF z x=true))∧
  (∀(z:Nat) (x:Tree) (l:List Tree) (k:Nat),okL z (x::l) (k+(1:Nat))=okL z l k)∧
  (∀(k:IntKind) (n:Int),FU k (Tree.int k n)=true)∧
  (∀(b:Bool),EJ (Tree.bool b)=true)∧
  (∀(b:ByteArray),FT (Tree.str b)=true)∧
  (∀(z:Nat) (es:List (List Tree)),FF z (Tree.sl z es)=true)∧
  (∀(k:IntKind) (n:Int),intOf (Tree.int k n)=n)∧
  (∀(b:Bool),Cq (Tree.bool b)=b)∧
  (∀(b:ByteArray),strOf (Tree.str b)=b)∧
  (∀(z:Nat) (es:List (List Tree)),Fa (Tree.sl z es)=es)∧
  (∀(x:Tree),A2 (AV.t x)=x)∧
  (∀(i v o l:Nat),E9 (AV.sref i v o l)=v)∧
  (∀(i v k o:Nat),E9 (AV.rptr i v k o)=v)∧
  (∀(i v o l:Nat),Hu (AV.sref i v o l)=o)∧
  (∀(i v o l:Nat),Hv (AV.sref i v o l)=l)∧
  (∀(f:Bool) (v z:Nat) (es:List (List Tree)),AE.ver (AE.row f v z es)=v)∧
  (∀(f:Bool) (v z:Nat) (es:List (List Tree)),Rs (AE.row f v z es)=es)∧
  (∀(cs:List AV) (j:Nat),cellOf (AE.box cs) j=List.getD cs j AV.undef)∧
  (∀(e:List AV) (h:Heap) (k j:Nat),aI (e,h) k j=intOf (A2 (List.getD (ER (List.getD e k AV.undef)) j AV.undef)))∧
  (∀(e:List AV) (h:Heap) (k j:Nat),aB (e,h) k j=Cq (A2 (List.getD (ER (List.getD e k AV.undef)) j AV.undef)))∧
  (∀(e:List AV) (h:Heap) (k j:Nat),aS (e,h) k j=strOf (A2 (List.getD (ER (List.getD e k AV.undef)) j AV.undef)))∧
  (∀(e:List AV) (h:Heap) (k j:Nat),aL (e,h) k j=Fa (A2 (List.getD (ER (List.getD e k AV.undef)) j AV.undef)))∧
  (∀(cs:List AV),ER (AV.agg cs)=cs)∧
  (∀{R S:Type} (J:S→Option R) (f:(S→Option R)→Option R),join J f=f J)∧
  (∀{α:Type} {x:α} {xs:List α} {d:α},List.getD (x::xs) (0:Nat) d=x)∧
  (∀{α:Type} {x:α} {xs:List α} {n:Nat} {d:α},List.getD (x::xs) (n+(1:Nat)) d=List.getD xs n d)∧
  (∀(h:Decidable True),@decide True h=true)∧
  (∀(h:Decidable False),@decide False h=false)∧
  (∀{R:Type} {i:Decidable True} (a b:Option R),@cnd R True i a b=a)∧
  (∀{R:Type} {i:Decidable False} (a b:Option R),@cnd R False i a b=b)∧
  (∀(p:Prop),(True∧p)=p)∧
  (∀(p:Prop),(p∧True)=p)∧
  (∀(p:Prop),(False∧p)=False)∧
  (∀(p:Prop),(p∧False)=False)∧
  (∀{α β:Type} (a:α) (f:α→Option β),Option.bind (some a) f=f a)∧
  (∀{α β:Type} (f:α→Option β),Option.bind (none:Option α) f=none)∧
  (∀{α:Type} {a:α} {l:List α},length (a::l)=length l+(1:Nat))∧
  (∀{α:Type},length ([]:List α)=(0:Nat))∧
  (∀{α β:Type} {l:List α} (f:α→β),length (List.map f l)=length l)∧
  (∀{α β:Type} {f:α→β} {l:List α} {i:Nat},(List.map f l)[i]? = Option.map f l[i]?)∧
  (∀{α β:Type} (a:α) (f:α→β),Option.map f (some a)=some (f a))∧
  (∀{α β:Type} (f:α→β),Option.map f (none:Option α)=none)∧
  (∀(n:Nat),toNat (n:Int)=n)∧
  (∀{α:Type} (a:α),(a=a)=True)∧
  (∀{α:Type} {x:Decidable True} (t e:α),@ite α True x t e=t)∧
  (∀{α:Type} {x:Decidable False} (t e:α),@ite α False x t e=e)∧
  (∀(n:Nat),(0:Nat)+n=n)∧
  (∀(n:Nat),(0:Int)≤(n:Int))∧
  (∀{α:Type} {l:List α},drop (0:Nat) l=l)∧
  (∀(p:Prop),(p∨True)=True)∧
  (∀(p:Prop),(True∨p)=True)∧
  (∀(p:Prop),(p∨False)=p)∧
  (∀(p:Prop),(False∨p)=p)∧
  ((!true)=false)∧
  ((!false)=true)∧
  ((false=true)=False)∧
  (∀{p:Prop} [inst:Decidable p],(decide p=true)=p)∧
  (∀{α:Type} [inst:LE α] {x y:α},x≥y↔y≤x)∧
  (∀{α:Type} [inst:LT α] {x y:α},x>y↔y<x):=
 ⟨@oMs_mk,@RZ,@vI_mk,@vB_mk,@vS_mk,@vL_mk,@sVer_mk,@sOff_mk,@sLen_mk,@oVer_mk,@oEs_mk,@cI_mk,@cB_mk,@cS_mk,@cL_mk,@cVer_mk,@cOff_mk,@cLen_mk,@gI_zero,@gI_succ,@gB_zero,@gB_succ,@gS_zero,@gS_succ,@gL_zero,@gL_succ,@VN,@VO,@VP,@VQ,@VJ,@VK,@VL,@VM,@Rh,@Ob,@Rg,@Ve,@intOf_int,@Qe,@Td,@slOf_sl,@Uo,@Q6,@Q7,@Q8,@Q9,@ver_row,@Vn,@R9,@aI_mk,@aB_mk,@aS_mk,@aL_mk,@Ub,@join_eq,@List.getD_cons_zero,@List.getD_cons_succ,@decide_true,@decide_false,@MP,@UN,@true_and,@and_true,@false_and,@and_false,@Option.bind_some,@Option.bind_none,@length_cons,@length_nil,@length_map,@getElem?_map,@map_some,@map_none,@toNat_natCast,@eq_self,@if_true,@if_false,@zero_add,@Int.natCast_nonneg,@drop_zero,@or_true,@true_or,@or_false,@false_or,@Bool.not_true,@Bool.not_false,@false_eq_true,@decide_eq_true_eq,@ge_iff_le,@gt_iff_lt⟩
end Ab
namespace Ab
open Go
structure AA where
 frm:Int
 to:Int
 start:Int
 stop:Int
 rate:Int
 rng:Int
 loss:Int
 deriving DecidableEq
def AA.enc (c:AA):List Tree:=[tI c.frm,tI c.to,tI c.start,tI c.stop,tI c.rate,tI c.rng,tI c.loss]
structure AB where
 contact:Int
 beg:Int
 stop:Int
 ticket:Int
 deriving DecidableEq
def AB.enc (b:AB):List Tree:=[tI b.contact,tI b.beg,tI b.stop,tI b.ticket]
structure Span where
 frm:Int
 to:Int
 deriving DecidableEq
def Span.enc (b:Span):List Tree:=[tI b.frm,tI b.to]
def encI (n:Int):List Tree:=[tI n]
def AW (c:AA):Int:=
 if ¬(0≤c.frm∧c.frm≤15∧0≤c.to∧c.to≤15∧1≤c.rate∧c.rate≤1000∧1≤c.rng∧c.rng≤1048576∧0≤c.loss∧c.loss≤16) then 2
 else if c.frm=c.to then 1 else if c.start<0∨c.stop≤c.start∨1099511627776-2*c.rng<c.stop then 2 else 0
theorem A9 {c:AA} (h:AW c=0):0≤c.frm∧c.frm≤15∧0≤c.to∧c.to≤15∧1≤c.rate∧c.rate≤1000∧1≤c.rng∧c.rng≤1048576∧0≤c.loss∧c.loss≤16∧c.frm≠c.to∧0≤c.start∧c.start<c.stop∧c.stop≤1099511627776-2*c.rng:=by simp only [AW] at h;omega
def Cs (a b:AA):Bool:=decide (AW a=0∧AW b=0∧a.frm=b.frm∧a.to=b.to∧max a.start b.start<min a.stop b.stop)
def busy (l:List AB) (k:Int):List Span:=l.filterMap fun b=>if b.contact=k then some ⟨b.beg,b.stop⟩ else none
def qOk (x:Int):Bool:=decide (0≤x∧x≤1073741824)
def B5 (n:Int) (cs:List AA) (i:Nat) (_:Unit) (c:AA):Rd Unit Int:=
 if AW c≠0 then .done (AW c) else if n≤c.frm∨n≤c.to then .done 2 else if (cs.take i).any (Cs c)=true then .done 14 else .next ()
def OQ (n:Int) (cs:List AA):Int:=A6 (B5 n cs) (fun _=>0) 0 cs ()
def AY (q:List Int) (cs:List AA):Int:=
 if q.length<1∨q.length>16∨cs.length>64 then 4 else if q.all qOk=true then OQ q.length cs else 2
theorem OS (a b:AA):Cs a b=Cs b a:=by simp only [Cs,decide_eq_decide];omega
def CA (cs:List AA) (b:AB):Bool:=
 if b.contact<0∨cs.length≤b.contact∨b.ticket<0∨1152921504606846976<b.ticket then false
 else match cs[b.contact.toNat]? with
  |some c=>decide (c.start≤b.beg∧b.beg<b.stop∧b.stop≤c.stop)
  |none=>false
def C5 (a b:Int):Int:=if a<b then -1 else if b<a then 1 else 0
def V9 (a b:AB):Int:=if C5 a.contact b.contact≠0 then C5 a.contact b.contact else C5 a.beg b.beg
def Cn (cs:List AA) (l:List AB) (i:Nat) (_:Unit) (b:AB):Rd Unit Int:=
 if CA cs b=false then .done 2 else if i=0 then .next () else match l[i-1]? with
  |some a=>if a.contact<b.contact then .next () else if b.contact<a.contact∨b.beg≤a.beg then .done 9 else if b.beg<a.stop then .done 14 else .next ()
  |none =>.next ()
def bookL (cs:List AA) (l:List AB):Int:=A6 (Cn cs l) (fun _=>0) 0 l ()
def Aw (q:List Int) (cs:List AA) (l:List AB):Int:=
 if AY q cs≠0 then 1 else if l.length>512 then 4 else bookL cs l
def Cu (q:List Int) (cs:List AA) (l:List AB) (k:Int):Int:=
 if Aw q cs l≠0 then 1 else if k<0∨cs.length≤k then 2 else 0
def CX (c:AA) (n:Int):Int:=(n+7+c.rate) / c.rate
theorem Cy {c:AA} (hr:1≤c.rate) {n:Int} (h0:0≤n) (h1:n≤16):1≤CX c n∧CX c n≤24:=by
 unfold CX;constructor
 ·exact Int.le_ediv_of_mul_le (by omega) (by omega)
 ·have h:n+7+c.rate<25*c.rate:=by omega
  have:=Int.ediv_lt_of_lt_mul (by omega) h;omega
theorem Uq {c:AA} (hr:1≤c.rate∧c.rate≤1000) {n:Int} (h0:0≤n) (h1:n≤16):w64 (Int.tdiv (w64 (w64 (w64 (n+8)+c.rate)-1)) c.rate)=CX c n:=by have b:=Cy hr.1 h0 h1;rw [Ay (x:=n+8) (by omega) (by omega),Ay (x:=n+8+c.rate) (by omega) (by omega),Ay (x:=n+8+c.rate-1) (by omega) (by omega)];rw [Int.tdiv_eq_ediv_of_nonneg (by omega),show n+8+c.rate-1=n+7+c.rate by omega];exact Ay (by unfold CX at b;omega) (by unfold CX at b;omega)
def DZ (c:AA) (n:Int):Int:=n / 16*CX c 16+if n % 16>0 then CX c (n % 16) else 0
theorem KO {c:AA} (hr:1≤c.rate) {n:Int} (h0:0≤n) (h1:n≤65536):0≤DZ c n∧DZ c n≤24*(n / 16+1):=by unfold DZ;have a:=Cy hr (n:=16) (by omega) (by omega);have b:=Cy hr (n:=n % 16) (by omega) (by omega);have m1:0≤n / 16*CX c 16:=Int.mul_nonneg (by omega) (by omega);have m2:n / 16*CX c 16≤n / 16*24:=Int.mul_le_mul_of_nonneg_left a.2 (by omega);split<;>omega
theorem RR {c:AA} {n:Int} (h:0<n):DZ c n=CX c (if 16<n then 16 else n)+DZ c (if n-16<0 then 0 else n-16):=by
 by_cases h1:16≤n
 ·have e1:(if 16<n then 16 else n)=16:=by split<;>omega
  have e2:(if n-16<0 then 0 else n-16)=n-16:=by rw [if_neg (by omega)]
  rw [e1,e2];unfold DZ;rw [show n / 16=(n-16) / 16+1 by omega,show (n-16) % 16=n % 16 by omega,Int.add_mul];omega
 ·have e1:(if 16<n then 16 else n)=n:=by split<;>omega
  have e2:(if n-16<0 then 0 else n-16)=0:=by rw [if_pos (by omega)]
  rw [e1,e2];unfold DZ;rw [show n / 16=0 by omega,show n % 16=n by omega];simp [h]
def DJ (c:AA) (n:Int):Int:=DZ c n+c.loss*(2*c.rng+1+CX c 16)
theorem E1 {c:AA} (hc:AW c=0) {n:Int} (h0:0≤n) (h1:n≤65536):0≤DJ c n∧DJ c n≤67108864:=by have o:=A9 hc;have a:=Cy (c:=c) (by omega) (n:=16) (by omega) (by omega);have p:=KO (c:=c) (by omega) h0 h1;unfold DJ;have m1:0≤c.loss*(2*c.rng+1+CX c 16):=Int.mul_nonneg (by omega) (by omega);have m2:c.loss*(2*c.rng+1+CX c 16)≤16*(2*c.rng+1+CX c 16):=Int.mul_le_mul_of_nonneg_right (by omega) (by omega);omega
theorem dur_eq {c:AA} (hc:AW c=0) {n:Int} (h0:0≤n) (h1:n≤65536):w64 (DZ c n+w64 (c.loss*w64 (w64 (w64 (2*c.rng)+1)+CX c 16)))=DJ c n:=by have o:=A9 hc;have a:=Cy (c:=c) (by omega) (n:=16) (by omega) (by omega);have p:=KO (c:=c) (by omega) h0 h1;have b:=E1 hc h0 h1;have m1:0≤c.loss*(2*c.rng+1+CX c 16):=Int.mul_nonneg (by omega) (by omega);unfold DJ at b;rw [Ay (x:=2*c.rng) (by omega) (by omega),Ay (x:=2*c.rng+1) (by omega) (by omega),Ay (x:=2*c.rng+1+_) (by omega) (by omega),Ay (x:=c.loss*_) (by omega) (by omega),Ay (by omega) (by omega)];rfl
def CV (c:AA) (n:Int):Int:=if AW c≠0 then 1 else if 1≤n∧n≤65536 then 0 else 2
def BA (stop:Int):List Span→Int→List Span
 |[],at_=>if at_<stop then [⟨at_,stop⟩] else []
 |x::l,at_=>(if at_<x.frm then [⟨at_,x.frm⟩] else [])++BA stop l (if at_<x.to then x.to else at_)
def S7 (stop:Int):List Span→Int→List Span
 |[],at_=>if at_<stop then [⟨at_,stop⟩] else []
 |x::l,at_=>(if at_<x.frm then [⟨at_,x.frm⟩] else [])++S7 stop l x.to
theorem MB (stop:Int):∀(l:List Span) (i:Nat) (s:List Span×Int),
  A6 (fun _ (s:List Span×Int) (x:Span)=>(.next (s.1++(if s.2<x.frm then [⟨s.2,x.frm⟩] else []),if s.2<x.to then x.to else s.2):Rd _ (List Span))) (fun s=>s.1++if s.2<stop then [⟨s.2,stop⟩] else []) i l s=s.1++BA stop l s.2
 |[],i,s=>rfl
 |x::l,i,s=>by simp only [A6,BA];rw [MB stop l];simp
theorem Fp (l:List AB) (k:Int):(busy l k).length≤l.length:=List.length_filterMap_le _ _
theorem Ei {α:Type} {step:Nat→Unit→α→Rd Unit Int} (hd:∀i x r,step i () x = .done r→r≠0):∀(l:List α) (i:Nat),A6 step (fun _=>0) i l ()=0→∀j x,l[j]? = some x→step (i+j) () x = .next ()
 |[],i,_,j,x,hx=>by simp at hx
 |y::l,i,h,j,x,hx=>by
  simp only [A6] at h;cases hs:step i () y with
  |done r=>rw [hs] at h;exact (hd i y r hs h).elim
  |next s=>
   rw [hs] at h;cases j with
   |zero=>simp at hx;subst hx;exact hs
   |succ j=>
    have:=Ei hd l (i+1) h j x (by simpa using hx);rwa [show i+1+j=i+(j+1) by omega] at this
theorem D1 {α:Type} {R:α→α→Prop} (ht:∀a b c,R a b→R b c→R a c):∀(l:List α),(∀j a b,l[j]? = some a→l[j+1]? = some b→R a b)→l.Pairwise R
 |[],_ =>.nil
 |x::l,h=>by
  have ih:=D1 ht l fun j a b ha hb=>h (j+1) a b (by simpa using ha) (by simpa using hb);refine .cons (fun y hy => ?_) ih;cases l with
  |nil=>simp at hy
  |cons z l=>
   have hxz:R x z:=h 0 x z rfl rfl;rcases mem_cons.1 hy with rfl|hy
   ·exact hxz
   ·cases ih with
    |cons h1 h2=>exact ht x z y hxz (h1 y hy)
def PN (a b:AB):Prop:=a.contact<b.contact∨a.contact=b.contact∧a.stop≤b.beg∧b.beg<b.stop
structure EE (cs:List AA) (l:List AB):Prop where
 valid:∀b∈l,CA cs b=true
 sorted:l.Pairwise PN
theorem PR {cs:List AA} {b:AB} (h:CA cs b=true):0≤b.contact∧b.contact<cs.length∧0≤b.ticket∧b.ticket≤1152921504606846976∧∀c,cs[b.contact.toNat]? = some c→c.start≤b.beg∧b.beg<b.stop∧b.stop≤c.stop:=by
 simp only [CA] at h;split at h
 ·cases h
 ·refine ⟨by omega,by omega,by omega,by omega,fun c hc => ?_⟩;rw [hc] at h;simpa using h
theorem Em {cs:List AA} {b:AB} (h:CA cs b=true):b.beg<b.stop:=by
 have o:=PR h;have hlt:b.contact.toNat<cs.length:=by omega
 exact (o.2.2.2.2 _ (getElem?_eq_getElem hlt)).2.1
theorem Qf {cs:List AA} {l:List AB} (h:bookL cs l=0):EE cs l:=by
 have hz:=Ei (step:=Cn cs l) (fun i x r hr=>by simp only [Cn] at hr;grind) l 0 h
 have hv:∀(j:Nat) b,l[j]? = some b→CA cs b=true:=fun j b hb=>by
  have:=hz j b hb;simp only [Cn] at this;cases hvb:CA cs b with
  |true=>rfl
  |false=>simp [hvb] at this
 refine ⟨fun b hb => ?_,D1 ?_ l fun j a b ha hb => ?_⟩
 ·obtain ⟨j,hj⟩:=mem_iff_getElem?.1 hb;exact hv j b hj
 ·intro a b c h1 h2;unfold PN at *;omega
 ·have hb1:=hv _ _ hb;have hlt:=Em hb1;have:=hz (j+1) b hb;simp only [Cn,hb1,zero_add,Nat.add_sub_cancel,ha] at this;unfold PN;grind
theorem Sf {q:List Int} {cs:List AA} (h:AY q cs=0):∀c∈cs,AW c=0:=by
 intro c hc;obtain ⟨j,hj⟩:=mem_iff_getElem?.1 hc;simp only [AY] at h;split at h
 ·omega
 ·split at h
  ·have:=Ei (step:=B5 q.length cs) (fun i x r hr=>by simp only [B5] at hr;grind) cs 0 h j c hj
   simp only [B5] at this;grind
  ·omega
def Row (stop:Int):List Span→Int→Prop
 |[],lo=>lo≤stop
 |x::l,lo=>lo≤x.frm∧x.frm<x.to∧Row stop l x.to
theorem Pm {stop:Int}:∀(l:List Span) (lo:Int),Row stop l lo→lo≤stop
 |[],_,h=>h
 |x::l,lo,⟨h1,h2,h3⟩=>by have:=Pm l x.to h3;omega
theorem GM {stop:Int}:∀(l:List Span) (lo:Int),lo≤stop→(∀x∈l,lo≤x.frm∧x.frm<x.to∧x.to≤stop)→l.Pairwise (fun x y=>x.to≤y.frm)→Row stop l lo
 |[],lo,h,_,_=>h
 |x::l,lo,_,hb,hp=>by
  have hx:=hb x (by simp);cases hp with
  |cons h1 h2=>
   exact ⟨hx.1,hx.2.1,GM l x.to hx.2.2 (fun y hy=>⟨h1 y hy,(hb y (by simp [hy])).2.1,(hb y (by simp [hy])).2.2⟩) h2⟩
theorem Fo {cs:List AA} {l:List AB} (h:EE cs l) {k:Int} {c:AA} (hc:cs[k.toNat]? = some c) (hcc:AW c=0):Row c.stop (busy l k) c.start:=by
 have o:=A9 hcc;refine GM _ _ (by omega) (fun x hx => ?_) ?_
 ·simp only [busy,mem_filterMap] at hx;obtain ⟨b,hb,he⟩:=hx;have hv:=PR (h.valid b hb);split at he
  ·rename_i hk;cases he;rw [hk] at hv;have:=hv.2.2.2.2 c hc;exact ⟨this.1,this.2.1,this.2.2⟩
  ·cases he
 ·unfold busy;refine List.Pairwise.filterMap _ (fun a b hab x hx y hy => ?_) h.sorted;split at hx<;>split at hy<;>first|(cases hx;done)|(cases hy;done)|skip
  cases hx;cases hy;unfold PN at hab;show a.stop≤b.beg;omega
theorem D8 {stop:Int}:∀(l:List Span) (lo at_:Int),Row stop l lo→lo≤at_→∀x∈BA stop l at_,at_≤x.frm∧x.frm<x.to∧x.to≤stop
 |[],lo,at_,h,ha,x,hx=>by simp only [BA] at hx;split at hx<;>simp at hx;subst hx;exact ⟨Int.le_refl _,by assumption,Int.le_refl _⟩
 |y::l,lo,at_,h,ha,x,hx=>by
  obtain ⟨h1,h2,h3⟩:=h;simp only [BA,mem_append] at hx;have hs:y.to≤stop:=Pm l _ h3;rcases hx with hx|hx
  ·split at hx<;>simp at hx;subst hx;exact ⟨Int.le_refl _,by assumption,by show y.frm≤stop;omega⟩
  ·have:=D8 l y.to _ h3 (by split<;>omega) x hx;refine ⟨?_,this.2⟩;have h4:=this.1;split at h4<;>omega
theorem ck_ok {q:List Int} {cs:List AA} {l:List AB} {k:Int} (h:Cu q cs l k=0):∃c,cs[k.toNat]? = some c∧0≤k∧k<cs.length∧AW c=0∧EE cs l∧l.length≤512:=by
 simp only [Cu] at h;split at h
 ·omega
 ·split at h
  ·omega
  ·rename_i h1 h2;have hlt:k.toNat<cs.length:=by omega
   have hc:cs[k.toNat]? = some cs[k.toNat]:=getElem?_eq_getElem hlt;simp only [ne_eq,Decidable.not_not,Aw] at h1;split at h1
   ·omega
   ·split at h1
    ·omega
    ·rename_i h3 h4;simp only [ne_eq,Decidable.not_not] at h3;exact ⟨_,hc,by omega,by omega,Sf h3 _ (mem_of_getElem? hc),Qf h1,by omega⟩
theorem HT (stop:Int):∀(l:List Span) (a:Int),(BA stop l a).length≤l.length+1
 |[],a=>by simp only [BA];split<;>simp
 |x::l,a=>by have:=HT stop l (if a<x.to then x.to else a);simp only [BA,length_append,length_cons];split<;>simp<;>omega
theorem Om {stop:Int}:∀(l:List Span) (lo:Int),Row stop l lo→BA stop l lo=S7 stop l lo
 |[],lo,h=>rfl
 |x::l,lo,⟨h1,h2,h3⟩=>by simp only [BA,S7];rw [if_pos (show lo<x.to by omega),Om l x.to h3]
def JA (q:List Int) (cs:List AA) (l:List AB) (k:Int):List Span:=
 if Cu q cs l k≠0 then [] else match cs[k.toNat]? with
  |none=>[]
  |some c=>S7 c.stop (busy l k) c.start
def bLt (x b:AB):Bool:=decide (x.contact<b.contact∨x.contact=b.contact∧x.beg<b.beg)
theorem cmpB_lt (x b:AB):V9 x b<0↔bLt x b=true:=by unfold V9 bLt C5;grind
theorem Ch {q:List Int} {cs:List AA} {l:List AB} (h:Aw q cs l=0):AY q cs=0∧l.length≤512∧EE cs l:=by
 simp only [Aw] at h;split at h
 ·omega
 ·split at h
  ·omega
  ·rename_i h1 h2;exact ⟨by simpa using h1,by omega,Qf h⟩
theorem NJ {α:Type} {step:Nat→Unit→α→Rd Unit Int}:∀(l:List α) (i:Nat),(∀j x,l[j]? = some x→step (i+j) () x = .next ())→A6 step (fun _=>0) i l ()=0
 |[],i,_=>rfl
 |y::l,i,h=>by
  have h0:=h 0 y rfl;simp only [add_zero] at h0;simp only [A6,h0];exact NJ l (i+1) fun j x hx=>by have:=h (j+1) x (by simpa using hx);rwa [show i+(j+1)=i+1+j by omega] at this
theorem O1 {q:List Int} {cs:List AA} {l:List AB} (h1:AY q cs=0) (h2:l.length≤512) (h3:EE cs l):Aw q cs l=0:=by
 unfold Aw;rw [if_neg (by simp [h1]),if_neg (by omega)];refine NJ l 0 fun j x hx => ?_;have hv:=h3.valid x (mem_of_getElem? hx);simp only [Cn,hv,zero_add];cases j with
 |zero=>simp
 |succ j=>
  have hj:=AJ hx;have ha:l[j]? = some l[j]:=getElem?_eq_getElem (by omega);have hr:=List.pairwise_iff_getElem.1 h3.sorted j (j+1) (by omega) hj (by omega);rw [getElem?_eq_getElem hj] at hx;cases hx;have hlt:=Em (h3.valid l[j] (getElem_mem _));simp only [Nat.add_sub_cancel,ha];unfold PN at hr;grind
def ovl (l:List AB) (b:AB):Bool:=l.any fun x=>decide (x.contact=b.contact∧x.beg<b.stop∧b.beg<x.stop)
theorem HQ {l:List AB} {b:AB} (h:ovl l b=false) {x:AB} (hx:x∈l) (hc:x.contact=b.contact):b.stop≤x.beg∨x.stop≤b.beg:=by unfold ovl at h;rw [any_eq_false] at h;have:=h x hx;simp only [decide_eq_true_eq] at this;omega
theorem TC {cs:List AA} {l:List AB} (h:EE cs l) (b:AB):Down (fun x=>bLt x b) l:=by
 intro i j x y hij hx hy hlt;rcases lt_or_ge i j with hlt2|hge
 ·have h1:=AJ hx;have h2:=AJ hy;have hr:=List.pairwise_iff_getElem.1 h.sorted i j h1 h2 hlt2;rw [getElem?_eq_getElem h1] at hx;rw [getElem?_eq_getElem h2] at hy;cases hx;cases hy;have hv:=Em (h.valid l[i] (getElem_mem _));unfold PN at hr;unfold bLt at *;simp only [decide_eq_true_eq] at *;omega
 ·obtain rfl:i=j:=by omega
  rw [hx] at hy;cases hy;exact hlt
def GB (l:List AB) (b:AB):List AB:=Fi (fun x => !bLt x b) b l
theorem ins_ok {cs:List AA} {l:List AB} {b:AB} (h:EE cs l) (hv:CA cs b=true) (ho:ovl l b=false):EE cs (GB l b):=by
 have hb:=Em hv;refine ⟨fun x hx => ?_,H2 h.sorted (fun x hx hg => ?_) (fun x hx hg => ?_) fun x hx y hy hr hg => ?_⟩
 ·rcases (Ey _ b l x).1 hx with rfl|hx
  ·exact hv
  ·exact h.valid x hx
 ·have hlt:=Em (h.valid x hx);unfold PN;unfold bLt at hg;simp only [not_eq_true',decide_eq_false_iff_not] at hg;by_cases hc:x.contact=b.contact
  ·have:=HQ ho hx hc;omega
  ·omega
 ·have hlt:=Em (h.valid x hx);unfold PN;unfold bLt at hg;simp only [Bool.not_eq_false',decide_eq_true_eq] at hg;by_cases hc:x.contact=b.contact
  ·have:=HQ ho hx hc;omega
  ·omega
 ·have h1:=Em (h.valid x hx);unfold PN at hr;unfold bLt at *;simp only [not_eq_true',decide_eq_false_iff_not] at *;omega
def Hp (q:List Int) (cs:List AA) (l:List AB) (b:AB):Int:=
 if Aw q cs l≠0 then 1 else if CA cs b=false then 2 else if l.length=512 then 4 else if ovl l b=true then 14 else 0
def Mm (q:List Int) (cs:List AA) (l:List AB) (b:AB):List AB:=if Hp q cs l b=0 then GB l b else []
theorem add_ok {q:List Int} {cs:List AA} {l:List AB} {b:AB} (h:Hp q cs l b=0):Aw q cs l=0∧CA cs b=true∧l.length<512∧ovl l b=false:=by unfold Hp at h;have:=fun h=>(Ch (q:=q) (cs:=cs) (l:=l) h).2.1;grind
theorem WE (l:List AB) (b:AB):(busy l b.contact).any (fun x=>decide (x.frm<b.stop∧b.beg<x.to))=ovl l b:=by
 unfold busy ovl
 induction l with
 |nil=>rfl
 |cons x l ih=>
  by_cases hc:x.contact=b.contact
  ·rw [List.filterMap_cons_some (b:=⟨x.beg,x.stop⟩) (by simp [hc]),any_cons,any_cons,ih];simp [hc]
  ·rw [List.filterMap_cons_none (by simp [hc]),any_cons,ih];simp [hc]
def bk (k:Int) (g:Span):AB:=⟨k,g.frm,g.to,0⟩
def blk (k:Int) (l:List AB) (gs:List Span):List AB:=gs.foldl (fun cur g=>GB cur (bk k g)) l
def Uk (cs:List AA) (k:Int) (cur:List AB) (rest:List Span):Prop:=
 EE cs cur∧(∀g∈rest,CA cs (bk k g)=true∧ovl cur (bk k g)=false)∧rest.Pairwise fun a b=>a.to≤b.frm
theorem ovl_ins {l:List AB} {b g:AB} (h:ovl l g=false) (hb:b.contact=g.contact→g.stop≤b.beg∨b.stop≤g.beg):ovl (GB l b) g=false:=by
 unfold ovl;rw [any_eq_false];intro x hx;simp only [decide_eq_true_eq];rcases (Ey _ b l x).1 hx with rfl|hx
 ·intro hc;have:=hb hc.1;omega
 ·intro hc;have:=HQ h hx hc.1;omega
theorem Uk.step {cs:List AA} {k:Int} {cur:List AB} {g:Span} {rest:List Span} (h:Uk cs k cur (g::rest)):Uk cs k (GB cur (bk k g)) rest:=by obtain ⟨h1,h2,h3⟩:=h;rw [pairwise_cons] at h3;have hg:=h2 g (by simp);refine ⟨ins_ok h1 hg.1 hg.2,fun x hx => ?_,h3.2⟩;have hx2:=h2 x (by simp [hx]);exact ⟨hx2.1,ovl_ins hx2.2 fun _ =>.inr (h3.1 x hx)⟩
theorem TL (k:Int):∀(gs:List Span) (l:List AB),(blk k l gs).length=l.length+gs.length
 |[],l=>rfl
 |g::gs,l=>by show (blk k (GB l (bk k g)) gs).length=_;rw [TL k gs,GB,I8,length_cons];omega
theorem Gz {stop:Int}:∀(l:List Span) (lo at_:Int),Row stop l lo→lo≤at_→(BA stop l at_).Pairwise fun a b=>a.to≤b.frm
 |[],lo,at_,_,_=>by unfold BA;split<;>simp
 |x::l,lo,at_,⟨h1,h2,h3⟩,hle=>by
  unfold BA;have hn:x.to≤(if at_<x.to then x.to else at_):=by split<;>omega
  have ih:=Gz l x.to (if at_<x.to then x.to else at_) h3 hn;split
  ·rw [singleton_append,pairwise_cons];refine ⟨fun y hy => ?_,ih⟩;have:=D8 l x.to _ h3 hn y hy;show x.frm≤y.frm;omega
  ·simpa using ih
theorem IG {stop:Int}:∀(l:List Span) (lo at_:Int),Row stop l lo→lo≤at_→∀g∈BA stop l at_,∀x∈l,x.to≤g.frm∨g.to≤x.frm
 |[],lo,at_,_,_,g,hg,x,hx=>by simp at hx
 |y::l,lo,at_,⟨h1,h2,h3⟩,hle,g,hg,x,hx=>by
  have hn:y.to≤(if at_<y.to then y.to else at_):=by split<;>omega
  unfold BA at hg;rw [mem_append] at hg;rcases hg with hg|hg
  ·split at hg
   ·simp only [mem_singleton] at hg;subst hg;rcases mem_cons.1 hx with rfl|hx
    ·exact .inr (Int.le_refl _)
    ·refine .inr ?_;show y.frm≤x.frm;have:∀(l:List Span) (lo:Int),Row stop l lo→∀x∈l,lo≤x.frm:=by
      intro l
      induction l with
      |nil=>intro lo _ x hx;simp at hx
      |cons z l ih=>
       intro lo hr x hx;obtain ⟨r1,r2,r3⟩:=hr;rcases mem_cons.1 hx with rfl|hx
       ·exact r1
       ·have:=ih z.to r3 x hx;omega
     have:=this l y.to h3 x hx;omega
   ·simp at hg
  ·rcases mem_cons.1 hx with rfl|hx
   ·have:=D8 l x.to _ h3 hn g hg;exact .inl (by omega)
   ·exact IG l y.to _ h3 hn g hg x hx
theorem MW {l:List AB} {k:Int} {x:AB} (hx:x∈l) (hk:x.contact=k):(⟨x.beg,x.stop⟩:Span)∈busy l k:=by unfold busy;rw [mem_filterMap];exact ⟨x,hx,by simp [hk]⟩
theorem L9 {cs:List AA} {l:List AB} {k f:Int} {c:AA} (h:EE cs l) (hk:0≤k∧k<cs.length) (hc:cs[k.toNat]? = some c) (hcc:AW c=0):Uk cs k l (BA c.stop (busy l k) (if c.start<f then f else c.start)):=by
 have hrow:=Fo h hc hcc;have hle:c.start≤(if c.start<f then f else c.start):=by split<;>omega
 refine ⟨h,fun g hg => ?_,Gz _ _ _ hrow hle⟩;have hm:=D8 _ _ _ hrow hle g hg;refine ⟨?_,?_⟩
 ·unfold CA bk;rw [if_neg (by simp only;omega)];simp only [hc,decide_eq_true_eq];omega
 ·unfold ovl;rw [any_eq_false];intro x hx;simp only [decide_eq_true_eq]
  rintro ⟨c1,c2,c3⟩
  simp only [bk] at c1 c2 c3;have:=IG _ _ _ hrow hle g hg _ (MW hx c1);simp only at this;omega
def Qh (q:List Int) (cs:List AA) (l:List AB) (k f:Int):Int:=
 if Cu q cs l k≠0 then Cu q cs l k else match cs[k.toNat]? with
  |none=>0
  |some c=>if l.length+(BA c.stop (busy l k) (if c.start<f then f else c.start)).length>512 then 4 else 0
def O3 (q:List Int) (cs:List AA) (l:List AB) (k f:Int):List AB:=
 if Qh q cs l k f≠0 then [] else match cs[k.toNat]? with
  |none=>[]
  |some c=>blk k l (BA c.stop (busy l k) (if c.start<f then f else c.start))
theorem ck_of {q:List Int} {cs:List AA} {l:List AB} {k:Int} (h:Aw q cs l=0) (hk:0≤k∧k<cs.length):Cu q cs l k=0:=by unfold Cu;rw [if_neg (by simp [h]),if_neg (by omega)]
theorem HI {c:AA} (hr:1≤c.rate) {n:Int} (h0:0≤n):1≤CX c n:=by unfold CX;rw [Int.le_ediv_iff_mul_le (by omega)];omega
theorem LD {c:AA} (hr:1≤c.rate) {n m:Int} (h:n≤m):CX c n≤CX c m:=by unfold CX;exact Int.ediv_le_ediv (by omega) (by omega)
theorem RQ {c:AA} (hr:1≤c.rate) {n:Int} (h0:0≤n):DZ c n≤DZ c (n+1):=by
 unfold DZ;have t16:=HI hr (n:=16) (by omega);by_cases h:n % 16=15
 ·have e1:(n+1) / 16=n / 16+1:=by omega
  have e2:(n+1) % 16=0:=by omega
  rw [e1,e2,h];have:=LD hr (n:=15) (m:=16) (by omega);simp only [Int.add_mul];simp;omega
 ·have e1:(n+1) / 16=n / 16:=by omega
  have e2:(n+1) % 16=n % 16+1:=by omega
  rw [e1,e2];have:=LD hr (n:=n % 16) (m:=n % 16+1) (by omega);have:=HI hr (n:=n % 16+1) (by omega);split<;>split<;>omega
theorem Lj {c:AA} (hr:1≤c.rate) {n:Int} (h0:0≤n):∀(d:Nat),DZ c n≤DZ c (n+d)
 |0=>by simp
 |d+1=>by have:=Lj hr h0 d;have:=RQ hr (n:=n+d) (by omega);rw [show n+((d+1:Nat):Int)=n+d+1 by omega];omega
theorem Ts {c:AA} (hr:1≤c.rate) {n:Int} (h0:1≤n):1≤DZ c n:=by
 have h1:DZ c 1=CX c 1:=by unfold DZ;simp
 have:=Lj hr (n:=1) (by omega) (n-1).toNat;rw [show (1:Int)+((n-1).toNat:Int)=n by omega,h1] at this;have:=HI hr (n:=1) (by omega);omega
theorem G3 {c:AA} (hc:AW c=0) {n:Int} (h0:1≤n):1≤DJ c n:=by have o:=A9 hc;unfold DJ;have h1:=Ts (c:=c) (by omega) h0;have h2:=HI (c:=c) (by omega) (n:=16) (by omega);have:0≤c.loss*(2*c.rng+1+CX c 16):=Int.mul_nonneg (by omega) (by omega);omega
theorem O2 (k:Int):∀(gs:List Span) (l:List AB) (x:AB),x∈blk k l gs↔x∈l∨∃g∈gs,x=bk k g
 |[],l,x=>by simp [blk]
 |g::gs,l,x=>by
  show x∈blk k (GB l (bk k g)) gs↔_;rw [O2 k gs,GB,Ey];simp only [mem_cons,exists_eq_or_imp];constructor
  ·rintro ((h|h)|h)
   ·exact .inr (.inl h)
   ·exact .inl h
   ·exact .inr (.inr h)
  ·rintro (h|h|h)
   ·exact .inl (.inr h)
   ·exact .inl (.inl h)
   ·exact .inr h
theorem Qg {cs:List AA} {k:Int}:∀(gs:List Span) (l:List AB),Uk cs k l gs→EE cs (blk k l gs)
 |[],l,h=>h.1
 |g::gs,l,h=>Qg gs (GB l (bk k g)) h.step
end Ab
namespace Ab
open Go
theorem OD {α β:Type} (f:α→β) (s:List α):take s.length (List.map f s)=List.map f s:=take_of_length_le (by simp)
theorem U8 (es:List (List Tree)) (hl:es.length≤1073741824):Ad C 1000078 [.sl 4 es] [.sl 4 es]:=by
 refine Ad.of (fun n=>Vp n _) (Ev.of fun n => ?_);by_cases h:es.length=0
 ·have:es=[]:=eq_nil_of_length_eq_zero h;subst this;simp [AF,J6]
 ·rw [DC h,DC hl,take_of_length_le (le_refl _)]
theorem Tk (a b c:Int):Ad C 139 [tI a,tI b,tI c] [.bool (decide (b≤a∧a≤c))]:=by refine Ad.of (fun n=>e139 n a b c) (Ev.of fun n => ?_);simp only [AF];by_cases h:b≤a<;>simp [h]
theorem s79 (c:AA):Ad C 79 c.enc [tI (AW c)]:=by refine Ad.of (fun n=>e79 n _ _ _ _ _ _ _) ?_;refine ((Tk c.frm 0 15).and ((Tk c.to 0 15).and ((Tk c.rate 1 1000).and ((Tk c.rng 1 1048576).and (Tk c.loss 0 16))))).mono fun n ⟨h1,h2,h3,h4,h5⟩=> ?_;simp only [h1,h2,h3,h4,h5,vv,reduceCtorEq,reduceAdd,reduceEqDiff];simp only [Eo,AW,w64,wrap64,not_eq_true',decide_eq_false_iff_not,beq_iff_eq];congr 3;omega
theorem s43 (c:AA):Ad C 43 c.enc [tI (AW c)]:=by refine Ad.of (fun n=>e43 n _ _ _ _ _ _ _) (Ev.of fun n => ?_);simp only [Eo,AW,w64,wrap64,beq_iff_eq,decide_eq_true_eq];congr 3;omega
theorem s82 (a b:AA):Ad C 82 (a.enc++b.enc) [.bool (Cs a b)]:=by
 refine Ad.of (fun n=>e82 n _ _ _ _ _ _ _ _ _ _ _ _ _ _) ?_;refine ((s79 a).and (s79 b)).mono fun n ⟨h1,h2⟩=> ?_;simp only [AA.enc] at h1 h2;simp only [h1,h2,vv,reduceCtorEq,reduceAdd,reduceEqDiff];simp only [AF,Cs,bne_iff_ne,ne_eq];by_cases k1:AW a=0<;>by_cases k2:AW b=0<;>by_cases k3:a.frm=b.frm<;>by_cases k4:a.to=b.to<;>simp [k1,k2,k3,k4]
 repeat' split
 all_goals omega
theorem s44 (a b:AA):Ad C 44 (a.enc++b.enc) [.bool (Cs a b)]:=by
 refine Ad.of (fun n=>e44 n _ _ _ _ _ _ _ _ _ _ _ _ _ _) ?_;refine ((s43 a).and (s43 b)).mono fun n ⟨h1,h2⟩=> ?_;simp only [AA.enc] at h1 h2;simp only [h1,h2,vv,reduceCtorEq,reduceAdd,reduceEqDiff];simp only [AF,Cs,beq_iff_eq];by_cases k1:AW a=0<;>by_cases k2:AW b=0<;>by_cases k3:a.frm=b.frm<;>by_cases k4:a.to=b.to<;>simp [k1,k2,k3,k4];have o1:=A9 k1;have o2:=A9 k2;by_cases h:a.start<b.stop
 ·simp only [h,if_true,Option.some.injEq,List.cons.injEq,Tree.bool.injEq,and_true,decide_eq_decide];omega
 ·simp only [h,if_false,Option.some.injEq,List.cons.injEq,Tree.bool.injEq,and_true];symm;simp only [decide_eq_false_iff_not];omega
theorem s38 (l:List AB) (k:Int) (hl:l.length≤1000000):Ad C 38 [.sl 4 (l.map AB.enc),tI k] [.sl 2 ((busy l k).map Span.enc)]:=by
 refine Ad.of (fun n=>e38 n _ _) ?_;refine T2 l (fun i (s:List Span)=>(([.sref 0 s.length 0 s.length,.t (tI i)],[.row false s.length 2 (s.map Span.enc)]):List AV×Heap))
  (fun i s x =>.next (s++(if x.contact=k then some (⟨x.beg,x.stop⟩:Span) else none).toList)) (fun s=>[.sl 2 (s.map Span.enc)]) (fun i s=>s.length≤i∧i≤l.length) [] rfl
  (by simp) ?_ (fun i s x hx hI=>Ev.of fun n again => ?_) (fun i s x s' hx hI h => ?_) (fun s hI=>Ev.of fun n again => ?_)
 ·rw [Bg,foldl_filterMap (fun x:AB=>if x.contact=k then some (⟨x.beg,x.stop⟩:Span) else none)];rfl
 ·have hi:=AJ hx;simp only [vv,reduceCtorEq,reduceAdd,reduceEqDiff,hx,AB.enc,Rd.Ac];rw [DC (by omega),AQ (by omega)];by_cases hk:x.contact=k
  ·simp only [hk,beq_self_eq_true,MP,if_true];rw [DC (by omega)];simp [Span.enc,OD]
  ·simp [hk,AF]
 ·have hi:=AJ hx;simp only [Rd.next.injEq] at h;subst h;split<;>simp at * <;>omega
 ·simp only [length_map,vv,reduceCtorEq,reduceAdd,reduceEqDiff];rw [Dm (by omega)];simp [← map_take]
theorem s41 (q:List Int) (cs:List AA):Ad C 41 [.sl 1 (q.map encI),.sl 7 (cs.map AA.enc)] [tI (AY q cs)]:=by
 refine Ad.of (fun n=>e41 n _ _) ?_;simp only [length_map,decide_eq_true_eq];by_cases h0:q.length<1∨q.length>16∨cs.length>64
 ·refine Ev.of fun n => ?_;simp only [AY,if_pos h0,AF];grind
 simp only [AY,if_neg h0];simp only [Dm (show ¬((q.length:Nat):Int)<1 by omega),Dm (show ¬((q.length:Nat):Int)>16 by omega),Dm (show ¬((cs.length:Nat):Int)>64 by omega)];refine Ae (fun r=>[tI r]) q (fun i _=>(([.t (tI i)],[]):List AV×Heap)) (fun i _ x=>if qOk x=true then .next () else .done 2)
  (fun _=>OQ q.length cs) (fun i s=>True) () rfl trivial (Il _ _ _ _ _) (fun i s x hx hI=>Ev.of fun n again => ?_) (fun i s x s' hx hI h=>trivial) (fun s hI => ?_)
 ·have hi:=AJ hx;simp only [vv,reduceCtorEq,reduceAdd,reduceEqDiff,hx,encI,qOk,AQ (show i<4611686018427387904 by omega)];grind [AF,Rd.Ah,Rd.Ac]
 ·simp only [vv,reduceCtorEq,reduceAdd,reduceEqDiff,lt_irrefl];refine Ev.mono (fun n h again=>h) ?_;refine Ae (fun r=>[tI r]) cs (fun i _=>(([.t (tI i)],[]):List AV×Heap)) (B5 q.length cs) (fun _=>0) (fun i s=>True) () rfl trivial rfl (fun i s c hx hI => ?_) (fun i s x s' hx hI h=>trivial) (fun s hI=>Ev.of fun n again => ?_)
  ·have hi:=AJ hx;by_cases k1:AW c=0∧c.frm<q.length∧c.to<q.length
   ·refine Ev.rwZ (T' := ?T') (s79 c) (fun n h again => ?a) ?b
    case a=>
     simp only [AA.enc] at h;simp only [vv,reduceCtorEq,reduceAdd,reduceEqDiff,hx,AA.enc,AQ (show i<4611686018427387904 by omega),h,k1.1,bne_self_eq_false,(show (i:Int)<cs.length by omega),(show ¬(q.length:Int)≤c.frm by omega),(show ¬(q.length:Int)≤c.to by omega),(show (i:Int)≤cs.length by omega)];rfl
    case b=>
     have hps:B5 q.length cs i s c=(if (cs.take i).any (Cs c)=true then .done 14 else .next ()):=by simp only [B5];rw [if_neg (by omega),if_neg (by omega)]
     simp only [hps,Rd.Vk,Rd.Ah,Rd.Ac];refine BC (cs.take i) (fun j _=>(([.t (tI j)],[.box []]):List AV×Heap)) (fun j _ d=>if Cs c d=true then .done true else .next ()) (fun _=>false) (fun (again:List AV×Heap→Option (List Tree)) b=>if b=true then some [tI 14] else again ([AV.t (tI ((i+1:Nat):Int))],[])) (fun _ _=>True) () rfl trivial (Gf _ _ _)
      (fun j s d hd hI => ?_) (fun _ _ _ _ _ _ _=>trivial) (fun s hI=>Ev.of fun n again again2 => ?_)
     ·have hj:=AJ hd;refine (s82 c d).mono fun n h again again2 => ?_;simp only [AA.enc,cons_append,nil_append] at h;simp only [vv,reduceCtorEq,reduceAdd,reduceEqDiff,← map_take,hd,AA.enc,h,AQ (show j<4611686018427387904 by simp at hj;omega),(show (j:Int)<(cs.take i).length by omega)];by_cases ho:Cs c d=true<;>simp only [ho,AF,if_true,if_false,Rd.Ah,Rd.Ac,false_eq_true]
     ·simp only [vv,reduceCtorEq,reduceAdd,reduceEqDiff,← map_take,lt_irrefl]
   ·refine (s79 c).mono fun n h again => ?_;simp only [AA.enc] at h;simp only [vv,reduceCtorEq,reduceAdd,reduceEqDiff,hx,AA.enc,AQ (show i<4611686018427387904 by omega),h,(show (i:Int)<cs.length by omega),B5];by_cases k2:AW c=0
    ·simp only [k2,bne_self_eq_false,AF];grind [Rd.Ah]
    ·simp [k2,AF,Rd.Ah]
  ·simp only [vv,reduceCtorEq,reduceAdd,reduceEqDiff,lt_irrefl]
theorem s15 (q:List Int) (cs:List AA):Ad C 15 [.sl 1 (q.map encI),.sl 7 (cs.map AA.enc)] [tI (AY q cs)]:=by
 refine Ad.of (fun n=>e15 n _ _) ?_;simp only [length_map,decide_eq_true_eq];by_cases h0:q.length<1∨q.length>16∨cs.length>64
 ·refine Ev.of fun n => ?_;simp only [AY,if_pos h0,AF];grind
 simp only [AY,if_neg h0];simp only [Dm (show ¬((q.length:Nat):Int)<1 by omega),Dm (show ¬((q.length:Nat):Int)>16 by omega),Dm (show ¬((cs.length:Nat):Int)>64 by omega)];refine Ae (fun r=>[tI r]) q (fun i _=>(([.t (tI i)],[]):List AV×Heap)) (fun i _ x=>if qOk x=true then .next () else .done 2)
  (fun _=>OQ q.length cs) (fun i s=>True) () rfl trivial (Il _ _ _ _ _) (fun i s x hx hI=>Ev.of fun n again => ?_) (fun i s x s' hx hI h=>trivial) (fun s hI => ?_)
 ·have hi:=AJ hx;simp only [vv,reduceCtorEq,reduceAdd,reduceEqDiff,hx,encI,qOk,AQ (show i<4611686018427387904 by omega)];grind [AF,Rd.Ah,Rd.Ac]
 ·simp only [vv,reduceCtorEq,reduceAdd,reduceEqDiff,lt_irrefl];refine Ev.mono (fun n h again=>h) ?_;refine Ae (fun r=>[tI r]) cs (fun i _=>(([.t (tI i)],[]):List AV×Heap)) (B5 q.length cs) (fun _=>0) (fun i s=>True) () rfl trivial rfl (fun i s c hx hI => ?_) (fun i s x s' hx hI h=>trivial) (fun s hI=>Ev.of fun n again => ?_)
  ·have hi:=AJ hx;by_cases k1:AW c=0∧c.frm<q.length∧c.to<q.length
   ·refine Ev.rwZ (T' := ?T') (s43 c) (fun n h again => ?a) ?b
    case a=>
     simp only [AA.enc] at h;simp only [vv,reduceCtorEq,reduceAdd,reduceEqDiff,hx,AA.enc,AQ (show i<4611686018427387904 by omega),h,k1.1,bne_self_eq_false,(show (i:Int)<cs.length by omega),(show ¬(q.length:Int)≤c.frm by omega),(show ¬(q.length:Int)≤c.to by omega)];rfl
    case b=>
     have hps:B5 q.length cs i s c=(if (cs.take i).any (Cs c)=true then .done 14 else .next ()):=by simp only [B5];rw [if_neg (by omega),if_neg (by omega)]
     simp only [hps,Rd.Vk,Rd.Ah,Rd.Ac];refine BC (cs.take i) (fun j _=>(([.t (tI j)],[.box []]):List AV×Heap)) (fun j _ d=>if Cs c d=true then .done true else .next ()) (fun _=>false) (fun (again:List AV×Heap→Option (List Tree)) b=>if b=true then some [tI 14] else again ([AV.t (tI ((i+1:Nat):Int))],[])) (fun _ _=>True) () rfl trivial (Gf _ _ _)
      (fun j s d hd hI => ?_) (fun _ _ _ _ _ _ _=>trivial) (fun s hI=>Ev.of fun n again again2 => ?_)
     ·have hj:=AJ hd;have hji:j<i:=by simp at hj;omega
      have hd2:cs[j]? = some d:=by rw [getElem?_take_of_lt hji] at hd;exact hd
      refine (s44 d c).mono fun n h again again2 => ?_;simp only [AA.enc,cons_append,nil_append] at h;simp only [vv,reduceCtorEq,reduceAdd,reduceEqDiff,hd2,AA.enc,h,AQ (show j<4611686018427387904 by omega),(show (j:Int)<i by omega),OS d c];by_cases ho:Cs c d=true<;>simp only [ho,AF,if_true,if_false,Rd.Ah,Rd.Ac,false_eq_true]
     ·have e:(cs.take i).length=i:=by simp;omega
      simp only [vv,reduceCtorEq,reduceAdd,reduceEqDiff,e,lt_irrefl]
   ·refine (s43 c).mono fun n h again => ?_;simp only [AA.enc] at h;simp only [vv,reduceCtorEq,reduceAdd,reduceEqDiff,hx,AA.enc,AQ (show i<4611686018427387904 by omega),h,(show (i:Int)<cs.length by omega),B5];by_cases k2:AW c=0
    ·simp only [k2,bne_self_eq_false,AF];grind [Rd.Ah]
    ·simp [k2,AF,Rd.Ah]
  ·simp only [vv,reduceCtorEq,reduceAdd,reduceEqDiff,lt_irrefl]
theorem s36 (q:List Int) (cs:List AA) (b:AB):Ad C 36 [.sl 1 (q.map encI),.sl 7 (cs.map AA.enc),tI b.contact,tI b.beg,tI b.stop,tI b.ticket] [.bool (CA cs b)]:=by
 refine Ad.of (fun n=>e36 n _ _ _ _ _ _) (Ev.of fun n => ?_);simp only [vv,reduceCtorEq,reduceAdd,reduceEqDiff,CA];by_cases h:b.contact<0∨cs.length≤b.contact∨b.ticket<0∨1152921504606846976<b.ticket
 ·simp only [if_pos h,AF];grind
 ·have hlt:b.contact.toNat<cs.length:=by omega
  have hc:cs[b.contact.toNat]? = some cs[b.contact.toNat]:=getElem?_eq_getElem hlt;simp only [if_neg h,hc,vv,reduceCtorEq,reduceAdd,reduceEqDiff,AA.enc,(show ¬b.contact<0 by omega),(show ¬(cs.length:Int)≤b.contact by omega),(show ¬b.ticket<0 by omega),(show ¬1152921504606846976<b.ticket by omega),(show 0≤b.contact by omega)];simp only [AF];grind
theorem s108 (q:List Int) (cs:List AA) (b:AB):Ad C 108 [.sl 1 (q.map encI),.sl 7 (cs.map AA.enc),tI b.contact,tI b.beg,tI b.stop,tI b.ticket] [.bool (CA cs b)]:=by
 refine Ad.of (fun n=>e108 n _ _ _ _ _ _) (Ev.of fun n => ?_);simp only [vv,reduceCtorEq,reduceAdd,reduceEqDiff,CA];by_cases h:b.contact<0∨cs.length≤b.contact∨b.ticket<0∨1152921504606846976<b.ticket
 ·simp only [if_pos h,AF];grind
 ·have hlt:b.contact.toNat<cs.length:=by omega
  have hc:cs[b.contact.toNat]? = some cs[b.contact.toNat]:=getElem?_eq_getElem hlt;simp only [if_neg h,hc,vv,reduceCtorEq,reduceAdd,reduceEqDiff,AA.enc,(show ¬b.contact<0 by omega),(show ¬(cs.length:Int)≤b.contact by omega),(show ¬b.ticket<0 by omega),(show ¬1152921504606846976<b.ticket by omega),(show 0≤b.contact by omega)];simp only [AF];grind
theorem s74 (a:Int):Ad C 74 [tI a] [.bool false]:=by refine Ad.of (fun n=>e74 n _) (Ev.of fun n => ?_);simp
theorem s35 (a b:Int):Ad C 35 [tI a,tI b] [tI (C5 a b)]:=by refine Ad.of (fun n=>e35 n _ _) ?_;refine ((s74 a).and (s74 b)).mono fun n h => ?_;simp only [h.1,h.2,vv,reduceCtorEq,reduceAdd,reduceEqDiff,Eo,C5]
theorem s34 (l:List Int) (hl:l.length≤1000):Ad C 34 [.sl 1 (l.map encI)] [tI ((l.find? (· ≠ 0)).getD 0)]:=by
 refine Ad.of (fun n=>e34 n _) ?_;refine Ae (fun r=>[tI r]) l (fun i _=>(([.t (tI i)],[]):List AV×Heap)) (fun i _ x=>if x≠0 then .done x else .next ()) (fun _=>0) (fun _ _=>True) () rfl trivial ?_
  (fun i s x hx hI=>Ev.of fun n again => ?_) (fun _ _ _ _ _ _ _=>trivial) (fun s hI=>Ev.of fun n again => ?_)
 ·have:∀(i:Nat) (l:List Int),A6 (fun _ (_:Unit) (x:Int)=>if x≠0 then .done x else .next ()) (fun _=>0) i l ()=(l.find? (· ≠ 0)).getD 0:=by
   intro i l
   induction l generalizing i with
   |nil=>rfl
   |cons x l ih=>
    by_cases hx:x=0
    ·simp only [A6,hx,ne_eq,not_true_eq_false,if_false,find?_cons,decide_false];exact ih _
    ·simp [A6,hx]
  exact this 0 l
 ·have hi:=AJ hx;simp only [vv,reduceCtorEq,reduceAdd,reduceEqDiff,hx,encI,AQ (show i<4611686018427387904 by omega),(show (i:Int)<l.length by omega)];by_cases h:x=0<;>simp [h,AF,Rd.Ah,Rd.Ac]
 ·simp only [vv,reduceCtorEq,reduceAdd,reduceEqDiff,lt_irrefl]
theorem s42 (a b:AB):Ad C 42 (a.enc++b.enc) [tI (V9 a b)]:=by refine Ad.of (fun n=>e42 n _ _ _ _ _ _ _ _) ?_;refine ((s35 a.contact b.contact).and ((s35 a.beg b.beg).and (s34 [C5 a.contact b.contact,C5 a.beg b.beg] (by simp)))).mono fun n ⟨h1,h2,h3⟩=> ?_;simp only [map_cons,map_nil,encI] at h3;simp only [h1,h2,h3,vv,reduceCtorEq,reduceAdd,reduceEqDiff];congr 3;simp only [V9,find?_cons,List.find?_nil];grind
theorem s13 (q:List Int) (cs:List AA) (l:List AB):Ad C 13 [.sl 1 (q.map encI),.sl 7 (cs.map AA.enc),.sl 4 (l.map AB.enc)] [tI (Aw q cs l)]:=by
 refine Ad.of (fun n=>e13 n _ _ _) ?_;refine Ev.rw (T' := ?T') (s41 q cs) (fun n h => ?a) ?b
 case a=>
  simp only [h,vv,reduceCtorEq,reduceAdd,reduceEqDiff];rfl
 case b=>
  by_cases h1:AY q cs=0∧l.length≤512
  ·simp only [h1.1,bne_self_eq_false,(show ¬(512:Int)<l.length by omega),vv,reduceCtorEq,reduceAdd,reduceEqDiff,Aw,ne_eq,not_true_eq_false,(show ¬l.length>512 by omega)];refine Ae (fun r=>[tI r]) l (fun i _=>(([.t (tI i)],[]):List AV×Heap)) (Cn cs l) (fun _=>0) (fun _ _=>True) () rfl trivial rfl
    (fun i s b hx hI => ?_) (fun _ _ _ _ _ _ _=>trivial) (fun s hI=>Ev.of fun n again => ?_)
   ·have hi:=AJ hx;by_cases hi0:i=0
    ·subst hi0;refine (s36 q cs b).mono fun n h again => ?_;simp only [vv,reduceCtorEq,reduceAdd,reduceEqDiff,hx,AB.enc,h,AQ (show 0<4611686018427387904 by omega),(show ((0:Nat):Int)<l.length by omega),Cn];cases CA cs b<;>simp [AF,Rd.Ah,Rd.Ac]
    ·have hp:l[i-1]? = some l[i-1]:=getElem?_eq_getElem (by omega);refine ((s36 q cs b).and (s42 l[i-1] b)).mono fun n ⟨h,h2⟩ again => ?_;simp only [AB.enc,cons_append,nil_append] at h2;simp only [vv,reduceCtorEq,reduceAdd,reduceEqDiff,hx,hp,AB.enc,h,h2,AQ (show i<4611686018427387904 by omega),IX (show i<4611686018427387904 by omega) (by omega),(show ((i:Nat):Int)<l.length by omega),Cn,if_neg hi0];rw [Dm (show ¬((i:Int)==0)=true by simp [hi0])];cases CA cs b
     ·simp [AF,Rd.Ah]
     ·simp only [AF,V9,C5];grind [Rd.Ah,Rd.Ac]
   ·simp only [vv,reduceCtorEq,reduceAdd,reduceEqDiff,lt_irrefl]
  ·refine Ev.of fun n => ?_;simp only [Aw];by_cases h2:AY q cs=0
   ·simp only [h2,bne_self_eq_false,(show (512:Int)<l.length by omega),vv,reduceCtorEq,reduceAdd,reduceEqDiff,ne_eq,not_true_eq_false,(show l.length>512 by omega)]
   ·simp [h2,AF]
theorem s57 (q:List Int) (cs:List AA) (l:List AB):Ad C 57 [.sl 1 (q.map encI),.sl 7 (cs.map AA.enc),.sl 4 (l.map AB.enc)] [tI (Aw q cs l)]:=by
 refine Ad.of (fun n=>e57 n _ _ _) ?_;refine Ev.rw (T' := ?T') (s15 q cs) (fun n h => ?a) ?b
 case a=>
  simp only [h,vv,reduceCtorEq,reduceAdd,reduceEqDiff];rfl
 case b=>
  by_cases h1:AY q cs=0∧l.length≤512
  ·simp only [h1.1,bne_self_eq_false,(show ¬(512:Int)<l.length by omega),vv,reduceCtorEq,reduceAdd,reduceEqDiff,Aw,ne_eq,not_true_eq_false,(show ¬l.length>512 by omega)];refine Ae (fun r=>[tI r]) l (fun i _=>(([.t (tI i)],[]):List AV×Heap)) (Cn cs l) (fun _=>0) (fun _ _=>True) () rfl trivial rfl
    (fun i s b hx hI => ?_) (fun _ _ _ _ _ _ _=>trivial) (fun s hI=>Ev.of fun n again => ?_)
   ·have hi:=AJ hx;by_cases hi0:i=0
    ·subst hi0;refine (s108 q cs b).mono fun n h again => ?_;simp only [vv,reduceCtorEq,reduceAdd,reduceEqDiff,hx,AB.enc,h,AQ (show 0<4611686018427387904 by omega),(show ((0:Nat):Int)<l.length by omega),Cn];cases CA cs b<;>simp [AF,Rd.Ah,Rd.Ac]
    ·have hp:l[i-1]? = some l[i-1]:=getElem?_eq_getElem (by omega);refine ((s108 q cs b)).mono fun n h again => ?_;simp only [vv,reduceCtorEq,reduceAdd,reduceEqDiff,hx,hp,AB.enc,h,AQ (show i<4611686018427387904 by omega),IX (show i<4611686018427387904 by omega) (by omega),(show ((i:Nat):Int)<l.length by omega),Cn,if_neg hi0];rw [Dm (show ¬((i:Int)==0)=true by simp [hi0])];cases CA cs b
     ·simp [AF,Rd.Ah]
     ·simp only [AF];grind [Rd.Ah,Rd.Ac]
   ·simp only [vv,reduceCtorEq,reduceAdd,reduceEqDiff,lt_irrefl]
  ·refine Ev.of fun n => ?_;simp only [Aw];by_cases h2:AY q cs=0
   ·simp only [h2,bne_self_eq_false,(show (512:Int)<l.length by omega),vv,reduceCtorEq,reduceAdd,reduceEqDiff,ne_eq,not_true_eq_false,(show l.length>512 by omega)]
   ·simp [h2,AF]
theorem U6 (q:List Int) (cs:List AA) (l:List AB) (k:Int):Ad C 141 [.sl 1 (q.map encI),.sl 7 (cs.map AA.enc),.sl 4 (l.map AB.enc),tI k] [tI (Cu q cs l k)]:=by refine Ad.of (fun n=>e141 n _ _ _ _) ?_;refine (s13 q cs l).mono fun n h => ?_;simp only [h,vv,reduceCtorEq,reduceAdd,reduceEqDiff,Eo,Cu];congr 3;simp only [bne_iff_ne];grind
theorem s185 (c:AA) (hr:1≤c.rate∧c.rate≤1000) (n:Int) (h0:0≤n) (h1:n≤16):Ad C 185 (c.enc++[tI n]) [tI (CX c n)]:=by refine Ad.of (fun n=>e185 n _ _ _ _ _ _ _ _) (Ev.of fun m => ?_);rw [Dm (by omega),Uq hr h0 h1]
theorem s184 (c:AA) (hr:1≤c.rate∧c.rate≤1000) (n:Int) (h0:0≤n) (h1:n≤65536):Ad C 184 (c.enc++[tI n]) [tI (DZ c n)]:=by
 refine Ad.of (fun n=>e184 n _ _ _ _ _ _ _ _) ?_;refine GW (fun r=>[tI r]) (fun (s:Int×Int)=>(([.t (tI s.1)],[.box [.t (tI s.2)],.box []]):List AV×Heap))
  (fun s=>if 0<s.1 then .next (s.1-16,s.2+CX c (if 16<s.1 then 16 else s.1)) else .done s.2) (fun s => -16<s.1∧s.1≤65536∧0≤s.2∧s.2≤24*(4096-s.1 / 16)) (fun s=>(s.1+16).toNat)
  (fun s=>s.2+DZ c (if s.1<0 then 0 else s.1)) (n,0) rfl ⟨by omega,by omega,by omega,by omega⟩ (by simp only [Int.zero_add];rw [if_neg (by omega)]) ?_ ?_ ?_
 ·rintro ⟨a,b⟩ ⟨i1,i2,i3,i4⟩
  dsimp only at i1 i2 i3 i4;by_cases ha:0<a
  ·have hm:0≤(if 16<a then 16 else a)∧(if 16<a then 16 else a)≤16:=by split<;>omega
   have tb:=Cy hr.1 hm.1 hm.2;refine (s185 c hr _ hm.1 hm.2).mono fun m k again => ?_;simp only [AA.enc,cons_append,nil_append] at k;simp only [vv,reduceCtorEq,reduceAdd,reduceEqDiff,ha,k,Rd.Ac];rw [Ay (x:=a-16) (by omega) (by omega),Ay (x:=b+_) (by omega) (by omega)]
  ·refine Ev.of fun m again => ?_;simp only [vv,reduceCtorEq,reduceAdd,reduceEqDiff,ha,Rd.Ah]
 ·rintro ⟨a,b⟩ ⟨a',b'⟩ ⟨i1,i2,i3,i4⟩ hs
  dsimp only at i1 i2 i3 i4 hs ⊢;by_cases ha:0<a
  ·have hm:0≤(if 16<a then 16 else a)∧(if 16<a then 16 else a)≤16:=by split<;>omega
   have tb:=Cy hr.1 hm.1 hm.2;simp only [ha,if_true,Rd.next.injEq,Prod.mk.injEq] at hs;omega
  ·simp [ha] at hs
 ·rintro ⟨a,b⟩ ⟨i1,i2,i3,i4⟩
  dsimp only at i1 i2 i3 i4 ⊢;by_cases ha:0<a
  ·simp only [ha,if_true,Rd.fin];rw [if_neg (by omega),RR ha];omega
  ·simp only [ha,if_false,Rd.fin];have e:(if a<0 then 0 else a)=0:=by split<;>omega
   rw [e];simp [DZ]
theorem s144 (c:AA) (hc:AW c=0) (n:Int) (h0:0≤n) (h1:n≤65536):Ad C 144 (c.enc++[tI n]) [tI (DJ c n)]:=by have o:=A9 hc;refine Ad.of (fun n=>e144 n _ _ _ _ _ _ _ _) ?_;refine ((s184 c (by omega) n h0 h1).and (s185 c (by omega) 16 (by omega) (by omega))).mono fun m ⟨k1,k2⟩=> ?_;simp only [AA.enc,cons_append,nil_append] at k1 k2;simp only [k1,k2,vv,reduceCtorEq,reduceAdd,reduceEqDiff,dur_eq hc h0 h1]
theorem s143 (c:AA) (n:Int):Ad C 143 (c.enc++[tI n]) [tI (CV c n)]:=by refine Ad.of (fun n=>e143 n _ _ _ _ _ _ _ _) ?_;refine ((s79 c).and (Tk n 1 65536)).mono fun m ⟨k1,k2⟩=> ?_;simp only [AA.enc] at k1;simp only [k1,k2,vv,reduceCtorEq,reduceAdd,reduceEqDiff,Eo,CV];congr 3;simp only [bne_iff_ne,not_eq_true',decide_eq_false_iff_not];grind
theorem s84 (c:AA) (n:Int):Ad C 84 (c.enc++[tI n]) [tI (if CV c n=0 then DJ c n else 0),tI (CV c n)]:=by
 refine Ad.of (fun n=>e84 n _ _ _ _ _ _ _ _) ?_;by_cases h:CV c n=0
 ·have h2:AW c=0∧1≤n∧n≤65536:=by simp only [CV] at h;grind
  refine ((s143 c n).and (s144 c h2.1 n (by omega) (by omega))).mono fun m ⟨k1,k2⟩=> ?_;simp only [AA.enc,cons_append,nil_append] at k1 k2;simp only [k1,k2,vv,reduceCtorEq,reduceAdd,reduceEqDiff,h,bne_self_eq_false]
 ·refine (s143 c n).mono fun m k1 => ?_;simp only [AA.enc,cons_append,nil_append] at k1;simp only [k1,vv,reduceCtorEq,reduceAdd,reduceEqDiff,if_neg h];rw [DC (by simp [h])]
theorem s142 (q:List Int) (cs:List AA) (l:List AB) (k from_:Int) (c:AA) (hk:0≤k) (hc:cs[k.toNat]? = some c) (hl:l.length≤1000000) :
  Ad C 142 [.sl 1 (q.map encI),.sl 7 (cs.map AA.enc),.sl 4 (l.map AB.enc),tI k,tI from_] [.sl 2 ((BA c.stop (busy l k) (if c.start<from_ then from_ else c.start)).map Span.enc)]:=by
 refine Ad.of (fun n=>e142 n _ _ _ _ _) ?_;have hbl:=Fp l k;refine Ev.rw (T' := ?T') (s38 l k hl) (fun n h => ?a) ?b
 case a=>
  simp only [vv,reduceCtorEq,reduceAdd,reduceEqDiff,hk,hc,AA.enc,h];rfl
 case b=>
  refine Ae (fun (g:List Span)=>[Tree.sl 2 (g.map Span.enc)]) (busy l k) (fun i (s:List Span×Int)=>(([.t (tI i)],[.box [],.row false s.1.length 2 (s.1.map Span.enc),.box [.sref 1 s.1.length 0 s.1.length],.box [.t (tI s.2)]]):List AV×Heap))
   (fun _ s x =>.next (s.1++(if s.2<x.frm then [⟨s.2,x.frm⟩] else []),if s.2<x.to then x.to else s.2)) (fun s=>s.1++if s.2<c.stop then [⟨s.2,c.stop⟩] else [])
   (fun i s=>s.1.length≤i∧i≤(busy l k).length) ([],if c.start<from_ then from_ else c.start) rfl (by simp) ((MB _ _ _ _).trans (nil_append _)) (fun i s x hx hI=>Ev.of fun n again => ?_) (fun i s x s' hx hI h => ?_) (fun s hI=>Ev.of fun n again => ?_)
  ·have hi:=AJ hx;simp only [vv,reduceCtorEq,reduceAdd,reduceEqDiff,hx,Span.enc,AQ (show i<4611686018427387904 by omega),(show (i:Int)<(busy l k).length by omega),Rd.Ac,(show s.1.length+1≤1073741824 by omega)];by_cases h:s.2<x.frm
   ·simp [h,AF,Span.enc,OD]
   ·simp [h,AF]
  ·have hi:=AJ hx;simp only [Rd.next.injEq] at h;subst h;simp only [length_append];split<;>simp<;>omega
  ·simp only [vv,reduceCtorEq,reduceAdd,reduceEqDiff,lt_irrefl,(show s.1.length+1≤1073741824 by omega)];by_cases h:s.2<c.stop
   ·simp only [h,vv,reduceCtorEq,reduceAdd,reduceEqDiff,map_append,map_cons,map_nil,Span.enc,OD,length_map,le_refl,MP];rw [take_of_length_le (by simp)]
   ·simp only [h,vv,reduceCtorEq,reduceAdd,reduceEqDiff,append_nil];rw [take_of_length_le (by simp)]
theorem s83 (q:List Int) (cs:List AA) (l:List AB) (k:Int) :
  Ad C 83 [.sl 1 (q.map encI),.sl 7 (cs.map AA.enc),.sl 4 (l.map AB.enc),tI k] [.sl 2 ((JA q cs l k).map Span.enc),tI (Cu q cs l k)]:=by
 refine Ad.of (fun n=>e83 n _ _ _ _) ?_;by_cases h0:Cu q cs l k=0
 ·obtain ⟨c,hc,hk,hk2,hcc,hbo,hl⟩:=ck_ok h0;refine ((U6 q cs l k).and (s142 q cs l k c.start c hk hc (by omega))).mono fun n ⟨k1,k2⟩=> ?_;simp only [k1,vv,reduceCtorEq,reduceAdd,reduceEqDiff,h0,bne_self_eq_false,hk,hc,AA.enc,k2,JA,ne_eq,not_true_eq_false,lt_irrefl,Om _ _ (Fo hbo hc hcc)]
 ·refine (U6 q cs l k).mono fun n k1 => ?_;simp only [k1,vv,reduceCtorEq,reduceAdd,reduceEqDiff,JA,h0,ne_eq,not_false_eq_true,map_nil];rw [DC (by simp [h0])]
theorem s40 (l:List AB) (b:AB) (hd:Down (fun x=>bLt x b) l) (hl:l.length≤1000000):Ad C 40 [.sl 4 (l.map AB.enc),tI b.contact,tI b.beg,tI b.stop,tI b.ticket] [.sl 4 ((Fi (fun x => !bLt x b) b l).map AB.enc)]:=by
 refine Ad.of (fun n=>e40 n _ _ _ _ _) ?_;have hi:Fi (fun x => !bLt x b) b l=l.take (l.countP fun x=>bLt x b)++b::l.drop (l.countP fun x=>bLt x b):=by rw [Og];obtain ⟨h1,h2⟩:=G5 hd;rw [h1,h2];simp
 rw [hi];refine TK (fun (k:Nat)=>[Tree.sl 4 ((l.take k++b::l.drop k).map AB.enc)]) (fun x=>bLt x b) l id (fun s=>(([.t (tI s.1),.t (tI s.2)],[]):List AV×Heap)) hd (by simp)
  (fun s h1 h2 h3 => ?_)
 obtain ⟨a,c⟩:=s;simp only at h1 h2 h3;by_cases hac:a<c
 ·have hm:l[(a+c) / 2]? = some l[(a+c) / 2]:=getElem?_eq_getElem (by omega);refine (s42 l[(a+c) / 2] b).mono fun n h again => ?_;simp only [AB.enc,cons_append,nil_append] at h;simp only [vv,reduceCtorEq,reduceAdd,reduceEqDiff,halfU a c (by omega),hm,AB.enc,h,(show (a:Int)<(c:Int) by omega),E4,if_pos hac,cmpB_lt,AQ (show (a+c) / 2<4611686018427387904 by omega)];cases bLt l[(a+c) / 2] b<;>simp [AF,Rd.Ac]
 ·have ho:E4 (fun x=>bLt x b) l id (a,c)= .done a:=by simp [E4,hac]
  rw [ho];have hcl:=U8 (l.map AB.enc) (by simp;omega);have hlen:l.length+1≤1073741824:=by omega
  have ha:(a:Int)≤(l.length:Int):=by omega
  have e1:∀x:List Tree,take (l.length+1) (take a (List.map AB.enc l)++[x]++drop a (List.map AB.enc l))=take a (List.map AB.enc l)++[x]++drop a (List.map AB.enc l):=fun x=>take_of_length_le (by simp;omega);by_cases hal:a<l.length
  ·have hm:l[a]? = some l[a]:=getElem?_eq_getElem hal;refine ((s42 l[a] b).and hcl).mono fun n h again => ?_;obtain ⟨h,k⟩:=h;simp only [AB.enc,cons_append,nil_append] at h;simp only [vv,reduceCtorEq,reduceAdd,reduceEqDiff,hm,AB.enc,h,k,(show ¬(a:Int)<(c:Int) by omega),(show (a:Int)<(l.length:Int) by omega),Rd.Ah,hlen,ha,e1];simp [AB.enc,map_take,map_drop,AF]
  ·refine hcl.mono fun n k again => ?_;simp only [vv,reduceCtorEq,reduceAdd,reduceEqDiff,k,(show ¬(a:Int)<(c:Int) by omega),(show ¬(a:Int)<(l.length:Int) by omega),Rd.Ah,hlen,ha,e1];simp [AB.enc,map_take,map_drop,AF]
theorem s12 (q:List Int) (cs:List AA) (l:List AB) (b:AB) :
  Ad C 12 [.sl 1 (q.map encI),.sl 7 (cs.map AA.enc),.sl 4 (l.map AB.enc),tI b.contact,tI b.beg,tI b.stop,tI b.ticket] [.sl 4 ((Mm q cs l b).map AB.enc),tI (Hp q cs l b)]:=by
 refine Ad.of (fun n=>e12 n _ _ _ _ _ _ _) ?_;by_cases h0:Aw q cs l=0
 ·obtain ⟨p1,p2,p3⟩:=Ch h0;cases hv:CA cs b with
  |false=>
   refine ((s13 q cs l).and (s36 q cs b)).mono fun n h => ?_;simp only [h.1,h.2,vv,reduceCtorEq,reduceAdd,reduceEqDiff,h0,hv,bne_self_eq_false];simp [Mm,Hp,h0,hv]
  |true=>
   by_cases hl:l.length=512
   ·refine ((s13 q cs l).and (s36 q cs b)).mono fun n h => ?_;simp only [h.1,h.2,vv,reduceCtorEq,reduceAdd,reduceEqDiff,h0,hv,bne_self_eq_false,hl];simp [Mm,Hp,h0,hv,hl,AF]
   ·have hbl:=Fp l b.contact;refine Ev.rw (T' := ?TT) ((s13 q cs l).and ((s36 q cs b).and (s38 l b.contact (by omega)))) (fun n h => ?g1) ?g2
    case g1=>
     simp only [h.1,h.2.1,h.2.2,vv,reduceCtorEq,reduceAdd,reduceEqDiff,h0,hv,bne_self_eq_false,(show (((l.length:Nat):Int)==512)=false by simp;omega)];rfl
    case g2=>
     have hins:=s40 l b (TC p3 b) (by omega);have hr:[Tree.sl 4 ((Mm q cs l b).map AB.enc),tI (Hp q cs l b)]=(fun (o:Bool)=>if o=true then [Tree.sl 4 [],tI 14] else [Tree.sl 4 ((GB l b).map AB.enc),tI 0]) (ovl l b):=by
      cases ho:ovl l b with
      |true=>simp [Mm,Hp,h0,hv,hl,ho]
      |false=>simp [Mm,Hp,h0,hv,hl,ho]
     rw [hr];refine Ae (fun (o:Bool)=>if o=true then [Tree.sl 4 [],tI 14] else [Tree.sl 4 ((GB l b).map AB.enc),tI 0]) (busy l b.contact) (fun i (_:Unit)=>(([.t (tI i)],[]):List AV×Heap)) (fun _ _ x=>if decide (x.frm<b.stop∧b.beg<x.to)=true then .done true else .next ()) (fun _=>false) (fun _ _=>True) () rfl trivial (by rw [Gf,WE])
      (fun i s x hx hI=>Ev.of fun n again => ?_) (fun _ _ _ _ _ _ _=>trivial) (fun s hI=>hins.mono fun n h again => ?_)
     ·have hi:=AJ hx;simp only [vv,reduceCtorEq,reduceAdd,reduceEqDiff,hx,Span.enc,(show (i:Int)<(busy l b.contact).length by omega),AQ (show i<4611686018427387904 by omega)];by_cases c1:x.frm<b.stop
      ·by_cases c2:b.beg<x.to
       ·simp [c1,c2,AF,Rd.Ah]
       ·simp [c1,c2,AF,Rd.Ac]
      ·simp [c1,AF,Rd.Ac]
     ·simp only [h,vv,reduceCtorEq,reduceAdd,reduceEqDiff,lt_irrefl,GB]
 ·refine (s13 q cs l).mono fun n h => ?_;simp only [h,vv,reduceCtorEq,reduceAdd,reduceEqDiff];rw [DC (by simp [h0])];simp [Mm,Hp,h0]
end Ab
namespace Ab
open Go
structure Lab where
 node:Int
 frm:Int
 to:Int
 time:Int
 deriving DecidableEq
def Lab.enc (x:Lab):List Tree:=[tI x.node,tI x.frm,tI x.to,tI x.time]
structure Hop where
 con:Int
 beg:Int
 stop:Int
 arr:Int
 deriving DecidableEq
def Hop.enc (x:Hop):List Tree:=[tI x.con,tI x.beg,tI x.stop,tI x.arr]
structure Rqt where
 src:Int
 dst:Int
 size:Int
 ready:Int
 dead:Int
 prio:Int
 cust:Bool
structure Gr where
 cs:List AA
 gaps:List (List Span)
 Ap:List (List Span)
 dur:List Int
 rq:Rqt
def D6 (n fr:Int):List Span→Option Int
 |[]=>none
 |x::l=>if (if fr>x.frm then fr else x.frm)+n≤x.to then some (if fr>x.frm then fr else x.frm) else D6 n fr l
def Ho (k:Nat) (c:AA) (n:Int) (gs:List Span) (fr:Int):Option Hop:=(D6 n fr gs).map fun b=>⟨k,b,b+n,b+n+c.rng⟩
def D4 (r:Rqt) (c:AA) (h:Hop):Int:=if r.cust then h.stop+2*c.rng else h.stop
def BG (g:Gr) (node:Int):List Span:=if node=g.rq.dst then [⟨0,1099511627776⟩] else g.Ap.getD node.toNat []
def mv1 (g:Gr) (x:Lab) (k:Nat) (c:AA) (r:Span):Option (Lab×Hop):=
 match Ho k c (g.dur.getD k 0) (g.gaps.getD k []) (if r.frm>x.time then r.frm else x.time) with
 |none=>none
 |some h=>if D4 g.rq c h>x.to∨h.arr>g.rq.dead∨(c.to≠g.rq.dst∧h.arr≥r.to) then none else some (⟨c.to,r.frm,r.to,h.arr⟩,h)
def mvC (g:Gr) (x:Lab) (k:Nat) (c:AA):List (Lab×Hop):=if c.frm=x.node then (BG g c.to).filterMap (mv1 g x k c) else []
def mvL (g:Gr) (x:Lab):Nat→List AA→List (Lab×Hop)
 |_,[]=>[]
 |k,c::l=>mvC g x k c++mvL g x (k+1) l
def BH (g:Gr) (x:Lab):List (Lab×Hop):=mvL g x 0 g.cs
theorem Sq {g:Gr} {x:Lab} {m:Lab×Hop}:∀{l:List AA} {k:Nat},m∈mvL g x k l↔∃j c,l[j]? = some c∧m∈mvC g x (k+j) c
 |[],k=>by simp [mvL]
 |c::l,k=>by
  rw [mvL,mem_append,Sq];constructor
  ·rintro (h|⟨j,c',h1,h2⟩)
   ·exact ⟨0,c,rfl,h⟩
   ·exact ⟨j+1,c',by simpa using h1,by rw [show k+(j+1)=k+1+j by omega];exact h2⟩
  ·rintro ⟨j,c',h1,h2⟩
   cases j with
   |zero=>cases (by simpa using h1:c=c');exact .inl h2
   |succ j=>exact .inr ⟨j,c',by simpa using h1,by rw [show k+1+j=k+(j+1) by omega];exact h2⟩
theorem D2 {g:Gr} {x:Lab} {m:Lab×Hop}:m∈BH g x↔∃(k:Nat) (c:AA) (r:Span),g.cs[k]? = some c∧c.frm=x.node∧r∈BG g c.to∧mv1 g x k c r=some m:=by
 unfold BH;rw [Sq];constructor
 ·rintro ⟨k,c,h1,h2⟩
  unfold mvC at h2;split at h2
  ·rename_i hf;obtain ⟨r,h3,h4⟩:=mem_filterMap.1 h2;exact ⟨k,c,r,h1,hf,h3,by rw [zero_add] at h4;exact h4⟩
  ·simp at h2
 ·rintro ⟨k,c,r,h1,hf,h3,h4⟩
  refine ⟨k,c,h1,?_⟩;unfold mvC;rw [if_pos hf];exact mem_filterMap.2 ⟨r,h3,by rw [zero_add];exact h4⟩
theorem Gn {g:Gr} {x:Lab} {k:Nat} {c:AA} {r:Span} {m:Lab×Hop} (h:mv1 g x k c r=some m) :
  ∃b,D6 (g.dur.getD k 0) (if r.frm>x.time then r.frm else x.time) (g.gaps.getD k [])=some b∧m.2=⟨k,b,b+g.dur.getD k 0,b+g.dur.getD k 0+c.rng⟩∧m.1=⟨c.to,r.frm,r.to,b+g.dur.getD k 0+c.rng⟩∧
   ¬(D4 g.rq c m.2>x.to∨m.2.arr>g.rq.dead∨(c.to≠g.rq.dst∧m.2.arr≥r.to)):=by
 unfold mv1 Ho at h;cases hb:D6 (g.dur.getD k 0) (if r.frm>x.time then r.frm else x.time) (g.gaps.getD k []) with
 |none=>rw [hb] at h;simp at h
 |some b=>
  rw [hb] at h;simp only [map_some] at h;split at h
  ·cases h
  ·rename_i hc;cases h;exact ⟨b,rfl,rfl,rfl,hc⟩
theorem VW {g:Gr} {x:Lab} {k:Nat} {c:AA} {r:Span} {b:Int} (hb:D6 (g.dur.getD k 0) (if r.frm>x.time then r.frm else x.time) (g.gaps.getD k [])=some b)
  (hc:¬(D4 g.rq c ⟨k,b,b+g.dur.getD k 0,b+g.dur.getD k 0+c.rng⟩>x.to∨b+g.dur.getD k 0+c.rng>g.rq.dead∨(c.to≠g.rq.dst∧b+g.dur.getD k 0+c.rng≥r.to))) :
  mv1 g x k c r=some (⟨c.to,r.frm,r.to,b+g.dur.getD k 0+c.rng⟩,⟨k,b,b+g.dur.getD k 0,b+g.dur.getD k 0+c.rng⟩):=by
 unfold mv1 Ho;rw [hb];simp only [map_some];rw [if_neg hc]
theorem Ju {n fr b:Int}:∀{l:List Span},D6 n fr l=some b→fr≤b∧∃x∈l,x.frm≤b∧b+n≤x.to
 |[],h=>by cases h
 |x::l,h=>by
  unfold D6 at h;have hb0:fr≤(if fr>x.frm then fr else x.frm)∧x.frm≤(if fr>x.frm then fr else x.frm):=by split<;>omega
  generalize (if fr>x.frm then fr else x.frm)=b0 at h hb0;split at h
  ·rename_i hc;cases h;exact ⟨hb0.1,x,mem_cons_self ..,hb0.2,hc⟩
  ·obtain ⟨h1,y,h2,h3⟩:=Ju h;exact ⟨h1,y,mem_cons_of_mem _ h2,h3⟩
def A0 (a b:Lab):Bool:=decide (a.node=b.node∧a.frm=b.frm)
def De (a:Lab):Int×Int:=(a.node,a.frm)
theorem EM {a b:Lab}:A0 a b=true↔De a=De b:=by unfold A0 De;rw [decide_eq_true_eq,Prod.mk.injEq]
def J1 (a b:Lab):Int:=if C5 a.time b.time≠0 then C5 a.time b.time else if C5 a.node b.node≠0 then C5 a.node b.node else C5 a.frm b.frm
def C3:Lab→List Lab→Lab
 |m,[]=>m
 |m,x::l=>C3 (if J1 x m<0 then x else m) l
theorem UP {a b:Lab} (h:¬J1 a b<0):b.time≤a.time:=by unfold J1 C5 at h;grind
theorem R6 {a b:Lab} (h:J1 a b<0):a.time≤b.time:=by unfold J1 C5 at h;grind
theorem Ej:∀(l:List Lab) (m:Lab),C3 m l∈m::l∧∀y∈m::l,(C3 m l).time≤y.time
 |[],m=>by simp [C3]
 |x::l,m=>by
  obtain ⟨h1,h2⟩:=Ej l (if J1 x m<0 then x else m);unfold C3;refine ⟨?_,fun y hy => ?_⟩
  ·rcases mem_cons.1 h1 with h|h
   ·rw [h];split<;>simp
   ·exact mem_cons_of_mem _ (mem_cons_of_mem _ h)
  ·have h3:=h2 (if J1 x m<0 then x else m) (mem_cons_self ..);rcases mem_cons.1 hy with rfl|hy
   ·by_cases hc:J1 x y<0
    ·rw [if_pos hc] at h3 ⊢;exact Int.le_trans h3 (R6 hc)
    ·rw [if_neg hc] at h3 ⊢;exact h3
   ·rcases mem_cons.1 hy with rfl|hy
    ·by_cases hc:J1 y m<0
     ·rw [if_pos hc] at h3 ⊢;exact h3
     ·rw [if_neg hc] at h3 ⊢;exact Int.le_trans h3 (UP hc)
    ·exact h2 y (mem_cons_of_mem _ hy)
def OY (g:Gr) (done:List Lab) (x:Lab):List Lab:=((BH g x).filter fun m=>decide (m.1.node≠g.rq.dst) && !done.any fun y=>A0 m.1 y).map (·.1)
def P7 (g:Gr):Nat→List Lab→List Lab→List Lab
 |0,done,_=>done
 |_+1,done,[]=>done
 |f+1,done,o::os=>P7 g f (done++[C3 o os]) ((o::os).filter (fun y => !A0 (C3 o os) y)++OY g (done++[C3 o os]) (C3 o os))
def Dy (g:Gr):List Lab:=(g.Ap.getD g.rq.src.toNat []).filterMap fun r=>if r.frm≤g.rq.ready∧g.rq.ready<r.to then some ⟨g.rq.src,r.frm,r.to,g.rq.ready⟩ else none
inductive Reach (g:Gr):Lab→Prop
 |start {x:Lab}:x∈Dy g→Reach g x
 |step {x:Lab} {m:Lab×Hop}:Reach g x→m∈BH g x→m.1.node≠g.rq.dst→Reach g m.1
structure GOk (g:Gr):Prop where
 src:0≤g.rq.src∧g.rq.src<g.Ap.length∧g.rq.src≠g.rq.dst
 dur:∀k,k<g.cs.length→1≤g.dur.getD k 0
 con:∀c∈g.cs,0≤c.to∧c.to<g.Ap.length∧1≤c.rng
 room:∀(l:List Span),l∈g.Ap→l.Pairwise fun a b=>a.frm≠b.frm
def KG (g:Gr) (y:Lab):Prop:=(0≤y.node∧y.node<g.Ap.length)∧y.node≠g.rq.dst∧(⟨y.frm,y.to⟩:Span)∈g.Ap.getD y.node.toNat []
theorem RF {g:Gr} {n:Int} (h:n≠g.rq.dst):BG g n=g.Ap.getD n.toNat []:=by rw [BG,if_neg h]
theorem NR {g:Gr} (hg:GOk g) {x:Lab} {m:Lab×Hop} (hm:m∈BH g x) (hd:m.1.node≠g.rq.dst):KG g m.1:=by obtain ⟨k,c,r,h1,h2,h3,h4⟩:=D2.1 hm;obtain ⟨b,h5,h6,h7,h8⟩:=Gn h4;have hc:=hg.con c (mem_of_getElem? h1);rw [h7] at hd ⊢;refine ⟨⟨hc.1,hc.2.1⟩,hd,?_⟩;rw [RF hd] at h3;exact h3
theorem LL {g:Gr} (hg:GOk g) {x:Lab} (hx:x∈Dy g):KG g x:=by
 obtain ⟨r,h1,h2⟩:=mem_filterMap.1 hx;split at h2
 ·cases h2;exact ⟨⟨hg.src.1,hg.src.2.1⟩,hg.src.2.2,h1⟩
 ·cases h2
theorem IB {g:Gr} (hg:GOk g) {x:Lab} (h:Reach g x):KG g x:=by
 cases h with
 |start h=>exact LL hg h
 |step _ h2 h3=>exact NR hg h2 h3
theorem pw_eq {l:List Span} (h:l.Pairwise fun a b=>a.frm≠b.frm) {a b:Span} (ha:a∈l) (hb:b∈l) (he:a.frm=b.frm):a=b:=by
 induction l with
 |nil=>cases ha
 |cons x l ih=>
  rw [pairwise_cons] at h;rcases mem_cons.1 ha with rfl|ha
  ·rcases mem_cons.1 hb with rfl|hb
   ·rfl
   ·exact (h.1 b hb he).elim
  ·rcases mem_cons.1 hb with hb|hb
   ·rw [hb] at he;exact (h.1 a ha he.symm).elim
   ·exact ih h.2 ha hb
theorem Vl {α:Type} {l:List (List α)} {n:Nat} {a:α} (h:a∈l.getD n []):l.getD n []∈l:=by
 by_cases hn:n<l.length
 ·simp [List.getD,hn]
 ·simp [List.getD,getElem?_eq_none (not_lt.1 hn)] at h
theorem SZ {g:Gr} (hg:GOk g) {x y:Lab} (hx:KG g x) (hy:KG g y) (h:De x=De y):x.to=y.to:=by unfold De at h;simp only [Prod.mk.injEq] at h;have h1:=hx.2.2;have h2:=hy.2.2;rw [h.1] at h1;have:=pw_eq (hg.room _ (Vl h2)) h1 h2 h.2;injection this
def DM (g:Gr):List (Int×Int):=((List.range g.Ap.length).map fun n=>(g.Ap.getD n []).map fun r=>((n:Int),r.frm)).flatten
theorem key_mem {g:Gr} {x:Lab} (h:KG g x):De x∈DM g:=by unfold DM;refine mem_flatten.2 ⟨_,mem_map.2 ⟨x.node.toNat,mem_range.2 (by have:=h.1;omega),rfl⟩,mem_map.2 ⟨_,h.2.2,?_⟩⟩;unfold De;have:=h.1;rw [Int.toNat_of_nonneg this.1]
theorem C2 {g:Gr} (hg:GOk g) {x:Lab} {m:Lab×Hop} (hm:m∈BH g x):x.time<m.1.time∧x.time≤m.2.beg∧m.2.beg<m.2.stop∧m.2.stop<m.2.arr∧m.1.time=m.2.arr:=by
 obtain ⟨k,c,r,h1,h2,h3,h4⟩:=D2.1 hm;obtain ⟨b,h5,h6,h7,h8⟩:=Gn h4;have hc:=hg.con c (mem_of_getElem? h1);have hd:=hg.dur k (AJ h1);have hb:=(Ju h5).1;have:x.time≤b:=by refine Int.le_trans ?_ hb;split<;>omega
 have e1:m.2.beg=b:=by rw [h6]
 have e2:m.2.stop=b+g.dur.getD k 0:=by rw [h6]
 have e3:m.2.arr=b+g.dur.getD k 0+c.rng:=by rw [h6]
 have e4:m.1.time=b+g.dur.getD k 0+c.rng:=by rw [h7]
 omega
structure Qx (g:Gr) (done opn:List Lab):Prop where
 nd:(done.map De).Nodup
 apart:∀x∈opn,∀d∈done,De d≠De x
 ord:∀d∈done,∀x∈opn,d.time≤x.time
 reach:∀x∈done++opn,Reach g x
 clos:∀d∈done,∀m∈BH g d,m.1.node≠g.rq.dst→∃z∈done++opn,De z=De m.1∧z.time≤m.1.time
 start:∀s∈Dy g,∃z∈done++opn,De z=De s∧z.time≤s.time
 come:∀z∈done++opn,z∈Dy g∨∃d∈done,∃m∈BH g d,m.1=z
theorem Lu (g:Gr):Qx g [] (Dy g) where
 nd:=by simp
 apart:=fun x _ d hd=>by cases hd
 ord:=fun d hd=>by cases hd
 reach:=fun x hx =>.start (by simpa using hx)
 clos:=fun d hd=>by cases hd
 start:=fun s hs=>⟨s,by simpa using hs,rfl,Int.le_refl _⟩
 come:=fun z hz =>.inl (by simpa using hz)
theorem NW {g:Gr} (hg:GOk g) {done os:List Lab} {o:Lab} (h:Qx g done (o::os)) :
  Qx g (done++[C3 o os]) ((o::os).filter (fun y => !A0 (C3 o os) y)++OY g (done++[C3 o os]) (C3 o os)):=by
 obtain ⟨hx1,hx2⟩:=Ej os o;generalize hxe:C3 o os=x at hx1 hx2;have hxr:Reach g x:=h.reach x (mem_append_right _ hx1);have hnew:∀y∈OY g (done++[x]) x,∃m∈BH g x,m.1=y∧m.1.node≠g.rq.dst∧∀d∈done++[x],De d≠De y:=fun y hy=>by unfold OY at hy;obtain ⟨m,h1,h2⟩:=mem_map.1 hy;obtain ⟨h3,h4⟩:=mem_filter.1 h1;simp only [and_eq_true,decide_eq_true_eq,not_eq_true',any_eq_false] at h4;refine ⟨m,h3,h2,h4.1,fun d hd he => ?_⟩;have:=h4.2 d hd;rw [EM,h2] at this;exact this he.symm
 have hfil:∀y∈(o::os).filter (fun y => !A0 x y),y∈o::os∧De x≠De y:=fun y hy=>by obtain ⟨h1,h2⟩:=mem_filter.1 hy;refine ⟨h1,fun he => ?_⟩;rw [EM.2 he] at h2;cases h2
 refine ⟨?_,fun y hy d hd => ?_,fun d hd y hy => ?_,fun y hy => ?_,fun d hd m hm hmd => ?_,fun s hs => ?_,fun z hz => ?_⟩
 ·rw [map_append,nodup_append];refine ⟨h.nd,by simp,fun a ha b hb he => ?_⟩;obtain ⟨d,hd,rfl⟩:=mem_map.1 ha;simp only [map_cons,map_nil,mem_singleton] at hb;rw [hb] at he;exact h.apart x hx1 d hd he
 ·rcases mem_append.1 hy with hy|hy
  ·obtain ⟨h1,h2⟩:=hfil y hy;rcases mem_append.1 hd with hd|hd
   ·exact h.apart y h1 d hd
   ·cases mem_singleton.1 hd;exact h2
  ·obtain ⟨m,_,_,_,h4⟩:=hnew y hy;exact h4 d hd
 ·have hdx:d.time≤x.time:=by
   rcases mem_append.1 hd with hd|hd
   ·exact h.ord d hd x hx1
   ·cases mem_singleton.1 hd;exact Int.le_refl _
  rcases mem_append.1 hy with hy|hy
  ·exact Int.le_trans hdx (hx2 y (hfil y hy).1)
  ·obtain ⟨m,h1,h2,_,_⟩:=hnew y hy;have:=(C2 hg h1).1;rw [h2] at this;omega
 ·rcases mem_append.1 hy with hy|hy
  ·rcases mem_append.1 hy with hy|hy
   ·exact h.reach y (mem_append_left _ hy)
   ·cases mem_singleton.1 hy;exact hxr
  ·rcases mem_append.1 hy with hy|hy
   ·exact h.reach y (mem_append_right _ (hfil y hy).1)
   ·obtain ⟨m,h1,h2,h3,_⟩:=hnew y hy;rw [← h2];exact .step hxr h1 h3
 ·have keep:∀z∈done++(o::os),∃z'∈done++[x]++((o::os).filter (fun y => !A0 x y)++OY g (done++[x]) x),De z'=De z∧z'.time≤z.time:=fun z hz=>by
   rcases mem_append.1 hz with hz|hz
   ·exact ⟨z,by simp [hz],rfl,Int.le_refl _⟩
   ·by_cases he:De x=De z
    ·exact ⟨x,by simp,he,hx2 z hz⟩
    ·refine ⟨z,mem_append_right _ (mem_append_left _ (mem_filter.2 ⟨hz,?_⟩)),rfl,Int.le_refl _⟩;cases hs:A0 x z with
     |false=>rfl
     |true=>exact (he (EM.1 hs)).elim
  rcases mem_append.1 hd with hd|hd
  ·obtain ⟨z,hz1,hz2,hz3⟩:=h.clos d hd m hm hmd;obtain ⟨z',h1,h2,h3⟩:=keep z hz1;exact ⟨z',h1,h2.trans hz2,Int.le_trans h3 hz3⟩
  ·cases mem_singleton.1 hd;by_cases ha:(done++[x]).any (fun y=>A0 m.1 y)=true
   ·obtain ⟨d,hd1,hd2⟩:=any_eq_true.1 ha;refine ⟨d,mem_append_left _ hd1,(EM.1 hd2).symm,?_⟩;have hlt:=(C2 hg hm).1;have hdx:d.time≤x.time:=by
     rcases mem_append.1 hd1 with hd|hd
     ·exact h.ord d hd x hx1
     ·cases mem_singleton.1 hd;exact Int.le_refl _
    omega
   ·refine ⟨m.1,mem_append_right _ (mem_append_right _ ?_),rfl,Int.le_refl _⟩;unfold OY;refine mem_map.2 ⟨m,mem_filter.2 ⟨hm,?_⟩,rfl⟩;simp only [Bool.not_eq_true] at ha;simp only [ha,Bool.not_false,Bool.and_true,decide_eq_true_eq];exact hmd
 ·obtain ⟨z,hz1,hz2,hz3⟩:=h.start s hs;rcases mem_append.1 hz1 with hz|hz
  ·exact ⟨z,by simp [hz],hz2,hz3⟩
  ·by_cases he:De x=De z
   ·exact ⟨x,by simp,he.trans hz2,Int.le_trans (hx2 z hz) hz3⟩
   ·refine ⟨z,mem_append_right _ (mem_append_left _ (mem_filter.2 ⟨hz,?_⟩)),hz2,hz3⟩;cases hs:A0 x z with
    |false=>rfl
    |true=>exact (he (EM.1 hs)).elim
 ·have old:∀z∈done++(o::os),z∈Dy g∨∃d∈done++[x],∃m∈BH g d,m.1=z:=fun z hz=>by
   rcases h.come z hz with h1|⟨d,h1,h2⟩
   ·exact .inl h1
   ·exact .inr ⟨d,mem_append_left _ h1,h2⟩
  rcases mem_append.1 hz with hz|hz
  ·rcases mem_append.1 hz with hz|hz
   ·exact old z (mem_append_left _ hz)
   ·cases mem_singleton.1 hz;exact old x (mem_append_right _ hx1)
  ·rcases mem_append.1 hz with hz|hz
   ·exact old z (mem_append_right _ (hfil z hz).1)
   ·obtain ⟨m,h1,h2,_,_⟩:=hnew z hz;exact .inr ⟨x,by simp,m,h1,h2⟩
theorem I1 {α:Type} [DecidableEq α]:∀{a b:List α},a.Nodup→(∀x∈a,x∈b)→a.length≤b.length
 |[],_,_,_=>zero_le _
 |x::a,b,h,hs=>by rw [nodup_cons] at h;have hx:=hs x (mem_cons_self ..);have ih:=I1 (a:=a) (b:=b.erase x) h.2 fun y hy=>(List.mem_erase_of_ne (fun e=>h.1 (by rw [← e];exact hy))).2 (hs y (mem_cons_of_mem _ hy));rw [List.length_erase_of_mem hx] at ih;have:=List.length_pos_of_mem hx;simp only [length_cons];omega
theorem Gu {g:Gr} (hg:GOk g) {done opn:List Lab} (h:Qx g done opn):done.length≤(DM g).length:=by
 have:=I1 h.nd (b:=DM g) fun k hk=>by obtain ⟨d,hd,rfl⟩:=mem_map.1 hk;exact key_mem (IB hg (h.reach d (mem_append_left _ hd)))
 simpa using this
theorem P6 {g:Gr} (hg:GOk g):∀(f:Nat) (done opn:List Lab),Qx g done opn→(DM g).length<done.length+f→Qx g (P7 g f done opn) []
 |0,done,opn,h,hf=>by have:=Gu hg h;omega
 |f+1,done,[],h,_=>h
 |f+1,done,o::os,h,hf=>P6 hg f _ _ (NW hg h) (by simp;omega)
def labels (g:Gr):List Lab:=P7 g ((DM g).length+1) [] (Dy g)
theorem D5 {g:Gr} (hg:GOk g):Qx g (labels g) []:=P6 hg _ _ _ (Lu g) (by simp)
def QF (s:Option Int) (t:Int):Bool:=match s with
 |none=>true
 |some b=>decide (t<b)
def GC (g:Gr) (s:Option Int) (m:Lab×Hop):Option Int:=if m.1.node=g.rq.dst∧QF s m.1.time=true then some m.1.time else s
def GD (g:Gr) (s:Option Int) (ms:List (Lab×Hop)):Option Int:=ms.foldl (GC g) s
def IS (g:Gr) (l:List Lab):Option Int:=l.foldl (fun s x=>GD g s (BH g x)) none
theorem N1 {g:Gr}:∀{ms:List (Lab×Hop)} {s:Option Int} {a:Int},GD g s ms=some a→
  (s=some a∨∃m∈ms,m.1.node=g.rq.dst∧m.1.time=a)∧(∀b,s=some b→a≤b)∧∀m∈ms,m.1.node=g.rq.dst→a≤m.1.time
 |[],s,a,h=>⟨.inl h,fun b hb=>by rw [show GD g s []=s from rfl] at h;rw [h] at hb;cases hb;exact Int.le_refl _,fun m hm=>by cases hm⟩
 |m::ms,s,a,h=>by
  rw [show GD g s (m::ms)=GD g (GC g s m) ms from rfl] at h;obtain ⟨h1,h2,h3⟩:=N1 h;unfold GC at h1 h2;by_cases hc:m.1.node=g.rq.dst∧QF s m.1.time=true
  ·rw [if_pos hc] at h1 h2;have h4:=h2 _ rfl;refine ⟨.inr ?_,fun b hb => ?_,fun m' hm' hd => ?_⟩
   ·rcases h1 with h1|⟨m',h5,h6⟩
    ·exact ⟨m,mem_cons_self ..,hc.1,Option.some.inj h1⟩
    ·exact ⟨m',mem_cons_of_mem _ h5,h6⟩
   ·rw [hb] at hc;have:=hc.2;simp only [QF,decide_eq_true_eq] at this;omega
   ·rcases mem_cons.1 hm' with rfl|hm'
    ·exact h4
    ·exact h3 m' hm' hd
  ·rw [if_neg hc] at h1 h2;refine ⟨?_,h2,fun m' hm' hd => ?_⟩
   ·rcases h1 with h1|⟨m',h5,h6⟩
    ·exact .inl h1
    ·exact .inr ⟨m',mem_cons_of_mem _ h5,h6⟩
   ·rcases mem_cons.1 hm' with rfl|hm'
    ·cases hs:s with
     |none=>rw [hs] at hc;exact (hc ⟨hd,rfl⟩).elim
     |some b=>
      have h5:=h2 b hs;rw [hs] at hc;simp only [hd,true_and,QF,decide_eq_true_eq] at hc;omega
    ·exact h3 m' hm' hd
theorem N2 {g:Gr}:∀{ms:List (Lab×Hop)} {s:Option Int},GD g s ms=none→s=none∧∀m∈ms,m.1.node≠g.rq.dst
 |[],s,h=>⟨h,fun m hm=>by cases hm⟩
 |m::ms,s,h=>by
  rw [show GD g s (m::ms)=GD g (GC g s m) ms from rfl] at h;obtain ⟨h1,h2⟩:=N2 h;unfold GC at h1;by_cases hc:m.1.node=g.rq.dst∧QF s m.1.time=true
  ·rw [if_pos hc] at h1;cases h1
  ·rw [if_neg hc] at h1;refine ⟨h1,fun m' hm' => ?_⟩;rcases mem_cons.1 hm' with rfl|hm'
   ·intro hd;rw [h1] at hc;exact hc ⟨hd,rfl⟩
   ·exact h2 m' hm'
theorem Qj {g:Gr} (s:Option Int) (a b:List (Lab×Hop)):GD g (GD g s a) b=GD g s (a++b):=by unfold GD;rw [List.foldl_append]
theorem O6 (g:Gr):∀(l:List Lab) (s:Option Int),l.foldl (fun s x=>GD g s (BH g x)) s=GD g s (l.map (BH g)).flatten
 |[],s=>rfl
 |x::l,s=>by rw [foldl_cons,O6 g l,Qj,map_cons,flatten_cons]
theorem J8 {g:Gr} {l:List Lab} {a:Int} (h:IS g l=some a):(∃x∈l,∃m∈BH g x,m.1.node=g.rq.dst∧m.1.time=a)∧∀x∈l,∀m∈BH g x,m.1.node=g.rq.dst→a≤m.1.time:=by
 unfold IS at h;rw [O6] at h;obtain ⟨h1,_,h3⟩:=N1 h;refine ⟨?_,fun x hx m hm=>h3 m (mem_flatten.2 ⟨_,mem_map.2 ⟨x,hx,rfl⟩,hm⟩)⟩;rcases h1 with h1|⟨m,h4,h5⟩
 ·cases h1
 ·obtain ⟨_,h6,h7⟩:=mem_flatten.1 h4;obtain ⟨x,hx,rfl⟩:=mem_map.1 h6;exact ⟨x,hx,m,h7,h5⟩
theorem UW {g:Gr} {l:List Lab} (h:IS g l=none):∀x∈l,∀m∈BH g x,m.1.node≠g.rq.dst:=by unfold IS at h;rw [O6] at h;exact fun x hx m hm=>(N2 h).2 m (mem_flatten.2 ⟨_,mem_map.2 ⟨x,hx,rfl⟩,hm⟩)
end Ab
namespace Ab
open Go
structure AN where
 node:Int
 frm:Int
 to:Int
 size:Int
 ticket:Int
 deriving DecidableEq
def AN.enc (h:AN):List Tree:=[tI h.node,tI h.frm,tI h.to,tI h.size,tI h.ticket]
structure Lvl where
 at_:Int
 val:Int
 deriving DecidableEq
def Lvl.enc (x:Lvl):List Tree:=[tI x.at_,tI x.val]
def Dk (q:List Int) (h:AN):Bool:=decide (0≤h.node∧h.node<q.length∧0≤h.frm∧h.frm<h.to∧h.to≤1099511627776∧1≤h.size∧h.size≤65536∧0≤h.ticket∧h.ticket≤1152921504606846976)
def V8 (a b:AN):Int:=if C5 a.node b.node≠0 then C5 a.node b.node else if C5 a.frm b.frm≠0 then C5 a.frm b.frm else if C5 a.to b.to≠0 then C5 a.to b.to else if C5 a.ticket b.ticket≠0 then C5 a.ticket b.ticket else C5 a.size b.size
def Ck (a b:AN):Bool:=if a.node≠b.node then decide (a.node<b.node) else if a.frm≠b.frm then decide (a.frm<b.frm) else if a.to≠b.to then decide (a.to<b.to) else if a.ticket≠b.ticket then decide (a.ticket<b.ticket) else decide (a.size<b.size)
theorem Nu (a b:AN):V8 a b>0↔Ck b a=true:=by unfold V8 Ck C5;grind
theorem cmpH_lt (a b:AN):V8 a b<0↔Ck a b=true:=by unfold V8 Ck C5;grind
theorem S6 (t n v:Int):∀(es:List (Int×Int)),As t (BO n v es)=if t=n then some v else As t es
 |[]=>by simp only [BO,As]
 |p::l=>by
  simp only [BO];by_cases h:n=p.1
  ·rw [if_pos h];simp only [As];by_cases ht:t=n
   ·rw [if_pos ht,if_pos ht]
   ·rw [if_neg ht,if_neg ht,if_neg (by rw [← h];exact ht)]
  ·rw [if_neg h];simp only [As];by_cases ht:t=p.1
   ·rw [if_pos ht,if_pos ht,if_neg (by omega)]
   ·rw [if_neg ht,if_neg ht,S6 t n v l]
theorem get_none {t:Int}:∀{es:List (Int×Int)},As t es=none↔t∉es.map (·.1)
 |[]=>by simp [As]
 |p::l=>by
  simp only [As,map_cons,mem_cons,not_or];by_cases h:t=p.1
  ·simp [h]
  ·rw [if_neg h,get_none (es:=l)];simp [h]
theorem Ph (n v:Int):∀(es:List (Int×Int)),(BO n v es).map (·.1)=if n∈es.map (·.1) then es.map (·.1) else es.map (·.1)++[n]
 |[]=>by simp [BO]
 |p::l=>by
  simp only [BO];by_cases h:n=p.1
  ·rw [if_pos h,if_pos (by simp [h])];simp [h]
  ·rw [if_neg h];simp only [map_cons,mem_cons,Ph n v l];by_cases hm:n∈l.map (·.1)
   ·rw [if_pos hm,if_pos (.inr hm)]
   ·rw [if_neg hm,if_neg (by simp only [not_or];exact ⟨h,hm⟩)];rfl
def C7 (es:List (Int×Int)) (t:Int):Int:=(As t es).getD 0
def Dv (es:List (Int×Int)) (t n:Int):List (Int×Int):=BO t (w64 (C7 es t+n)) es
theorem Ll (es:List (Int×Int)) (t n s:Int):C7 (Dv es t n) s=if s=t then w64 (C7 es t+n) else C7 es s:=by
 unfold Dv;rw [C7,S6];split
 ·rfl
 ·rfl
theorem Jp (es:List (Int×Int)) (t n:Int):(Dv es t n).map (·.1)=if t∈es.map (·.1) then es.map (·.1) else es.map (·.1)++[t]:=Ph _ _ _
def Bw (node:Int) (es:List (Int×Int)) (h:AN):List (Int×Int):=if h.node=node then Dv (Dv es h.frm h.size) h.to (w64 (0-h.size)) else es
def J3 (node:Int) (l:List AN):List (Int×Int):=l.foldl (Bw node) []
def dzH (node t:Int) (h:AN):Int:=if h.node=node then (if h.frm=t then h.size else 0)-(if h.to=t then h.size else 0) else 0
def Cj (f:AN→Int):List AN→Int
 |[]=>0
 |h::l=>f h+Cj f l
def Ft (l:List AN):Prop:=∀h∈l,1≤h.size∧h.size≤65536∧0≤h.frm∧h.frm<h.to
theorem Ft.tail {h:AN} {l:List AN} (hs:Ft (h::l)):Ft l:=fun x hx=>hs x (mem_cons_of_mem _ hx)
theorem LF {f:AN→Int}:∀{l:List AN},(∀h∈l,-65536≤f h∧f h≤65536)→ -65536*(l.length:Int)≤Cj f l∧Cj f l≤65536*(l.length:Int)
 |[],_=>by simp [Cj]
 |h::l,hf=>by have h1:=hf h (mem_cons_self ..);have h2:=LF (l:=l) fun x hx=>hf x (mem_cons_of_mem _ hx);simp only [Cj,length_cons];omega
theorem Vq {node t:Int} {h:AN} (hs:1≤h.size∧h.size≤65536∧0≤h.frm∧h.frm<h.to) : -65536≤dzH node t h∧dzH node t h≤65536:=by unfold dzH;grind
theorem TJ (node:Int):∀(l:List AN) (es:List (Int×Int)) (B:Int),Ft l→(∀t,-B≤C7 es t∧C7 es t≤B)→B+131072*(l.length:Int)≤4611686018427387904→∀t,C7 (l.foldl (Bw node) es) t=C7 es t+Cj (dzH node t) l
 |[],es,B,_,_,_,t=>by simp [Cj]
 |h::l,es,B,hs,hB,hl,t=>by
  have h1:=hs h (mem_cons_self ..);simp only [length_cons] at hl;rw [foldl_cons];have hw:w64 (0-h.size)= - h.size:=by rw [w64,HG]<;>omega
  have hv:∀s,C7 (Bw node es h) s=C7 es s+dzH node s h:=fun s=>by
   unfold Bw dzH;by_cases hn:h.node=node
   ·rw [if_pos hn,if_pos hn,Ll,Ll,hw];have hb1:=hB h.frm;have hb2:=hB h.to;have hb3:=hB s;have e1:w64 (C7 es h.frm+h.size)=C7 es h.frm+h.size:=by rw [w64,HG]<;>omega
    rw [Ll,e1,if_neg (show ¬h.to=h.frm by omega)];have e2:w64 (C7 es h.to + -h.size)=C7 es h.to-h.size:=by rw [w64,HG]<;>omega
    rw [e2];by_cases ha:s=h.to
    ·subst ha;rw [if_pos rfl,if_neg (show ¬h.frm=h.to by omega),if_pos rfl];omega
    ·rw [if_neg ha];by_cases hb:s=h.frm
     ·subst hb;rw [if_pos rfl,if_pos rfl,if_neg (fun e=>ha e.symm)];omega
     ·rw [if_neg hb,if_neg (fun e=>hb e.symm),if_neg (fun e=>ha e.symm)];omega
   ·rw [if_neg hn,if_neg hn];omega
  rw [TJ node l (Bw node es h) (B+65536) hs.tail (fun s=>by rw [hv s];have:=hB s;have:=Vq (node:=node) (t:=s) h1;omega) (by omega) t,hv t,Cj];omega
theorem QZ (node:Int):∀(l:List AN) (es:List (Int×Int)),(es.map (·.1)).Nodup→((l.foldl (Bw node) es).map (·.1)).Nodup∧∀t,t∈(l.foldl (Bw node) es).map (·.1)↔t∈es.map (·.1)∨∃h∈l,h.node=node∧(t=h.frm∨t=h.to)
 |[],es,hn=>⟨hn,fun t=>by simp⟩
 |h::l,es,hn=>by
  rw [foldl_cons];have one:∀(es:List (Int×Int)) (t n:Int),(es.map (·.1)).Nodup→((Dv es t n).map (·.1)).Nodup∧∀s,s∈(Dv es t n).map (·.1)↔s∈es.map (·.1)∨s=t:=fun es t n hn=>by
   rw [Jp];split
   ·rename_i hm;refine ⟨hn,fun s=>⟨.inl,?_⟩⟩
    rintro (h|rfl)
    ·exact h
    ·exact hm
   ·rename_i hm;refine ⟨?_,fun s=>by simp⟩;rw [nodup_append];refine ⟨hn,by simp,fun a ha b hb e => ?_⟩;cases mem_singleton.1 hb;exact hm (e ▸ ha)
  have hst:((Bw node es h).map (·.1)).Nodup∧∀t,t∈(Bw node es h).map (·.1)↔t∈es.map (·.1)∨h.node=node∧(t=h.frm∨t=h.to):=by
   unfold Bw;by_cases hc:h.node=node
   ·rw [if_pos hc];obtain ⟨a1,a2⟩:=one es h.frm h.size hn;obtain ⟨b1,b2⟩:=one _ h.to (w64 (0-h.size)) a1;refine ⟨b1,fun t => ?_⟩;rw [b2,a2];simp only [hc,true_and];exact or_assoc
   ·rw [if_neg hc];exact ⟨hn,fun t=>by simp [hc]⟩
  obtain ⟨h1,h2⟩:=QZ node l _ hst.1;refine ⟨h1,fun t => ?_⟩;rw [h2,hst.2];simp only [mem_cons,exists_eq_or_imp];exact or_assoc
def F5 (es:List (Int×Int)):List Int→Int→List Lvl
 |[],_=>[]
 |t::l,s=>if C7 es t=0 then F5 es l s else ⟨t,w64 (s+C7 es t)⟩::F5 es l (w64 (s+C7 es t))
def Bd (l:List Int):List Int:=l.mergeSort fun x y=>decide (x≤y)
def levels (l:List AN) (node:Int):List Lvl:=F5 (J3 node l) (Bd ((J3 node l).map (·.1))) 0
theorem Fx (l:List Int):(Bd l).Perm l:=List.mergeSort_perm l _
theorem Pe (l:List Int):(Bd l).Pairwise (· ≤·):=by have:=List.pairwise_mergeSort (le:=fun x y:Int=>decide (x≤y)) (fun a b c h1 h2=>by simp at *;omega) (fun a b=>by simp;omega) l;exact this.imp fun h=>by simpa using h
theorem Pf {l:List Int} (h:l.Nodup):(Bd l).Pairwise (· < ·):=by have h1:=Pe l;have h2:(Bd l).Nodup:=(Fx l).nodup_iff.2 h;exact (h1.and h2).imp fun h=>by omega
def upTo (node t:Int) (h:AN):Int:=if h.node=node then (if h.frm≤t then h.size else 0)-(if h.to≤t then h.size else 0) else 0
def stH (node t:Int) (h:AN):Int:=if h.node=node∧h.frm≤t∧t<h.to then h.size else 0
def stored (l:List AN) (node t:Int):Int:=Cj (stH node t) l
theorem DU {f g:AN→Int}:∀{l:List AN},(∀h∈l,f h=g h)→Cj f l=Cj g l
 |[],_=>rfl
 |h::l,e=>by rw [Cj,Cj,e h (mem_cons_self ..),DU fun x hx=>e x (mem_cons_of_mem _ hx)]
theorem PX {f g:AN→Int}:∀(l:List AN),Cj (fun h=>f h+g h) l=Cj f l+Cj g l
 |[]=>rfl
 |h::l=>by simp only [Cj,PX l];omega
theorem OG {f g:AN→Int}:∀{l:List AN},(∀h∈l,f h≤g h)→Cj f l≤Cj g l
 |[],_=>Int.le_refl _
 |h::l,e=>by have:=e h (mem_cons_self ..);have:=OG (l:=l) fun x hx=>e x (mem_cons_of_mem _ hx);simp only [Cj];omega
theorem SS {l:List AN} (hs:Ft l) (node t:Int):Cj (upTo node t) l=stored l node t:=DU fun h hh=>by have:=hs h hh;unfold upTo stH;grind
theorem Ig {l:List AN} (hs:Ft l) (node t:Int):0≤stored l node t∧stored l node t≤65536*(l.length:Int):=by
 have h1:=LF (f:=stH node t) (l:=l) fun h hh=>by have:=hs h hh;unfold stH;split<;>omega
 refine ⟨?_,h1.2⟩;have h2:=OG (f:=fun _=>0) (g:=stH node t) (l:=l) fun h hh=>by have:=hs h hh;unfold stH;split<;>omega
 have h3:∀(l:List AN),Cj (fun _=>0) l=0:=fun l=>by induction l with
  |nil=>rfl
  |cons a l ih=>simp [Cj,ih]
 rw [h3] at h2;exact h2
theorem SX {l:List AN} (hs:Ft l) {node lo t:Int} (hlt:lo<t) (hk:∀h∈l,h.node=node→(h.frm≤lo∨t≤h.frm)∧(h.to≤lo∨t≤h.to)):stored l node t=stored l node lo+Cj (dzH node t) l:=by rw [← SS hs,← SS hs,← PX];refine DU fun h hh => ?_;have h1:=hs h hh;have h2:=hk h hh;unfold upTo dzH;grind
theorem SV {l:List AN} (hs:Ft l) {node lo t:Int} (hle:lo≤t) (hk:∀h∈l,h.node=node→(h.frm≤lo∨t<h.frm)∧(h.to≤lo∨t<h.to)):stored l node t=stored l node lo:=by refine DU fun h hh => ?_;have h1:=hs h hh;have h2:=hk h hh;unfold stH;grind
theorem HR {l:List AN} (hs:Ft l) (hlen:l.length≤10000) {node:Int} {es:List (Int×Int)} (hes:∀t,C7 es t=Cj (dzH node t) l):∀(ts:List Int) (lo s:Int),ts.Pairwise (· < ·)→(∀t∈ts,lo<t)→
  (∀h∈l,h.node=node→(h.frm≤lo∨h.frm∈ts)∧(h.to≤lo∨h.to∈ts))→s=stored l node lo→
  (∀x∈F5 es ts s,x.at_∈ts∧x.val=stored l node x.at_)∧(F5 es ts s).Pairwise (fun x y=>x.at_<y.at_)
 |[],lo,s,_,_,_,_=>⟨fun x hx=>by simp [F5] at hx,by simp [F5]⟩
 |t::ts,lo,s,hp,hlo,hk,hS=>by
  rw [pairwise_cons] at hp;have hlt:=hlo t (mem_cons_self ..);have hge:∀x∈t::ts,t≤x:=fun x hx=>by
   rcases mem_cons.1 hx with rfl|hx
   ·exact Int.le_refl _
   ·exact le_of_lt (hp.1 x hx)
  have hnx:=SX hs (node:=node) hlt fun h hh hn=>by obtain ⟨h1,h2⟩:=hk h hh hn;exact ⟨h1.imp id (hge _),h2.imp id (hge _)⟩
  have hk':∀h∈l,h.node=node→(h.frm≤t∨h.frm∈ts)∧(h.to≤t∨h.to∈ts):=fun h hh hn=>by
   obtain ⟨h1,h2⟩:=hk h hh hn;constructor
   ·rcases h1 with h1|h1
    ·exact .inl (by omega)
    ·rcases mem_cons.1 h1 with h1|h1
     ·exact .inl (by omega)
     ·exact .inr h1
   ·rcases h2 with h1|h1
    ·exact .inl (by omega)
    ·rcases mem_cons.1 h1 with h1|h1
     ·exact .inl (by omega)
     ·exact .inr h1
  unfold F5;rw [← hes t] at hnx;by_cases h0:C7 es t=0
  ·rw [if_pos h0];obtain ⟨a1,a2⟩:=HR hs hlen hes ts t s hp.2 hp.1 hk' (by omega);exact ⟨fun x hx=>⟨mem_cons_of_mem _ (a1 x hx).1,(a1 x hx).2⟩,a2⟩
  ·rw [if_neg h0];have hb:=Ig hs node t;have hw:w64 (s+C7 es t)=stored l node t:=by rw [w64,HG]<;>omega
   obtain ⟨a1,a2⟩:=HR hs hlen hes ts t (w64 (s+C7 es t)) hp.2 hp.1 hk' hw;refine ⟨fun x hx => ?_,?_⟩
   ·rcases mem_cons.1 hx with rfl|hx
    ·exact ⟨mem_cons_self ..,hw⟩
    ·exact ⟨mem_cons_of_mem _ (a1 x hx).1,(a1 x hx).2⟩
   ·rw [pairwise_cons];exact ⟨fun y hy=>hp.1 _ (a1 y hy).1,a2⟩
theorem Uw {l:List AN} (hs:Ft l) {node t:Int} (ht:t<0):stored l node t=0:=by
 have:stored l node t=Cj (fun _=>0) l:=DU fun h hh=>by have:=hs h hh;unfold stH;rw [if_neg (by omega)]
 rw [this]
 induction l with
 |nil=>rfl
 |cons a l ih=>
  simp only [Cj,Int.zero_add];exact ih hs.tail (DU fun h hh=>by have:=hs.tail h hh;unfold stH;rw [if_neg (by omega)])
theorem NX {l:List AN} (hs:Ft l) (hlen:l.length≤10000) (node:Int):∀t,C7 (J3 node l) t=Cj (dzH node t) l:=fun t=>by have:=TJ node l [] 0 hs (fun s=>by simp [C7,As]) (by omega) t;rw [J3,this];simp [C7,As]
theorem KS {l:List AN} (node:Int):(Bd ((J3 node l).map (·.1))).Pairwise (· < ·)∧∀t,t∈Bd ((J3 node l).map (·.1))↔∃h∈l,h.node=node∧(t=h.frm∨t=h.to):=by obtain ⟨h1,h2⟩:=QZ node l [] (by simp);refine ⟨Pf h1,fun t => ?_⟩;rw [(Fx _).mem_iff];rw [J3,h2];simp
theorem FE {l:List AN} (hs:Ft l) (hlen:l.length≤10000) (node:Int):(∀x∈levels l node,(∃h∈l,h.node=node∧(x.at_=h.frm∨x.at_=h.to))∧0≤x.at_∧x.val=stored l node x.at_)∧(levels l node).Pairwise (fun x y=>x.at_<y.at_):=by
 obtain ⟨k1,k2⟩:=KS (l:=l) node;have h0:∀t∈Bd ((J3 node l).map (·.1)),-1<t:=fun t ht=>by obtain ⟨h,h1,h2,h3⟩:=(k2 t).1 ht;have:=hs h h1;omega
 have hst:=HR hs hlen (NX hs hlen node) (Bd ((J3 node l).map (·.1))) (-1) 0 k1 h0
  (fun h hh hn=>⟨.inr ((k2 _).2 ⟨h,hh,hn,.inl rfl⟩),.inr ((k2 _).2 ⟨h,hh,hn,.inr rfl⟩)⟩) (Uw hs (by omega)).symm
 refine ⟨fun x hx => ?_,hst.2⟩;obtain ⟨h1,h2⟩:=hst.1 x hx;have:=h0 _ h1;exact ⟨(k2 _).1 h1,by omega,h2⟩
theorem Q5 {l:List AN} (hs:Ft l) {node Q:Int} (hQ:0≤Q) (hf:∀h∈l,h.node=node→stored l node h.frm≤Q) (t:Int):stored l node t≤Q:=by
 have key:∀(m:List AN),(∀h∈m,h∈l)→(∃a∈m,a.node=node∧a.frm≤t∧t<a.to)→∃a∈l,a.node=node∧a.frm≤t∧t<a.to∧∀h∈m,h.node=node→h.frm≤t→t<h.to→h.frm≤a.frm:=by
  intro m
  induction m with
  |nil=>rintro _ ⟨a,ha,_⟩;cases ha
  |cons b m ih=>
   intro hm hex;by_cases hr:∃a∈m,a.node=node∧a.frm≤t∧t<a.to
   ·obtain ⟨a,a1,a2,a3,a4,a5⟩:=ih (fun h hh=>hm h (mem_cons_of_mem _ hh)) hr;by_cases hb:b.node=node∧b.frm≤t∧t<b.to∧a.frm<b.frm
    ·refine ⟨b,hm b (mem_cons_self ..),hb.1,hb.2.1,hb.2.2.1,fun h hh h1 h2 h3 => ?_⟩;rcases mem_cons.1 hh with rfl|hh
     ·exact Int.le_refl _
     ·have:=a5 h hh h1 h2 h3;omega
    ·refine ⟨a,a1,a2,a3,a4,fun h hh h1 h2 h3 => ?_⟩;rcases mem_cons.1 hh with rfl|hh
     ·by_cases hc:h.frm≤a.frm
      ·exact hc
      ·exact (hb ⟨h1,h2,h3,by omega⟩).elim
     ·exact a5 h hh h1 h2 h3
   ·obtain ⟨a,ha,h1,h2,h3⟩:=hex;rcases mem_cons.1 ha with rfl|ha
    ·refine ⟨a,hm a (mem_cons_self ..),h1,h2,h3,fun h hh g1 g2 g3 => ?_⟩;rcases mem_cons.1 hh with rfl|hh
     ·exact Int.le_refl _
     ·exact (hr ⟨h,hh,g1,g2,g3⟩).elim
    ·exact (hr ⟨a,ha,h1,h2,h3⟩).elim
 by_cases hex:∃a∈l,a.node=node∧a.frm≤t∧t<a.to
 ·obtain ⟨a,a1,a2,a3,a4,a5⟩:=key l (fun _ h=>h) hex;refine Int.le_trans (OG fun h hh => ?_) (hf a a1 a2);have h1:=hs h hh;have h2:=a5 h hh;unfold stH;grind
 ·have:stored l node t=Cj (fun _=>0) l:=DU fun h hh=>by unfold stH;rw [if_neg fun hc=>hex ⟨h,hh,hc⟩]
  have h3:∀(l:List AN),Cj (fun _=>0) l=0:=fun l=>by induction l with
   |nil=>rfl
   |cons a l ih=>simp [Cj,ih]
  rw [this,h3];exact hQ
def GP (l:List Lvl):Int:=l.foldl (fun n x=>if x.val>n then x.val else n) 0
theorem Ss {Q:Int}:∀(l:List Lvl) (n:Int),n≤Q→(∀x∈l,x.val≤Q)→l.foldl (fun n x=>if x.val>n then x.val else n) n≤Q
 |[],n,h,_=>h
 |x::l,n,h,hl=>by rw [foldl_cons];refine Ss l _ ?_ fun y hy=>hl y (mem_cons_of_mem _ hy);have:=hl x (mem_cons_self ..);split<;>omega
theorem Su:∀(l:List Lvl) (n:Int),n≤l.foldl (fun n x=>if x.val>n then x.val else n) n∧∀x∈l,x.val≤l.foldl (fun n x=>if x.val>n then x.val else n) n
 |[],n=>⟨Int.le_refl _,fun x hx=>by cases hx⟩
 |x::l,n=>by
  rw [foldl_cons];obtain ⟨h1,h2⟩:=Su l (if x.val>n then x.val else n);refine ⟨?_,fun y hy => ?_⟩
  ·refine Int.le_trans ?_ h1;split<;>omega
  ·rcases mem_cons.1 hy with rfl|hy
   ·refine Int.le_trans ?_ h1;split<;>omega
   ·exact h2 y hy
def Br (q:List Int) (l:List AN) (i:Nat) (_:Unit) (h:AN):Rd Unit Int:=
 if Dk q h=false then .done 2 else if i=0 then .next () else match l[i-1]? with
  |some a=>if Ck h a=true then .done 9 else .next ()
  |none =>.next ()
def GQ (q:List Int) (l:List AN):Int:=A6 (Br q l) (fun _=>0) 0 l ()
def E0 (l:List AN) (i:Nat) (_:Unit) (Q:Int):Rd Unit Int:=if GP (levels l i)>Q then .done 15 else .next ()
def B0 (q:List Int) (cs:List AA) (l:List AN):Int:=
 if AY q cs≠0 then 1 else if l.length>512 then 4 else if GQ q l≠0 then GQ q l else A6 (E0 l) (fun _=>0) 0 q ()
def Nl (q:List Int) (l:List AN):Bool:=l.all fun h=>decide (stored l h.node h.frm≤q.getD h.node.toNat 0)
def DY (q:List Int) (cs:List AA) (l:List AN):Int:=
 if AY q cs≠0 then 1 else if l.length>512 then 4 else if GQ q l≠0 then GQ q l else if Nl q l=true then 0 else 15
theorem Vi {q:List Int} {l:List AN} (h:GQ q l=0):∀x∈l,Dk q x=true:=fun x hx=>by
 obtain ⟨j,hj,rfl⟩:=mem_iff_getElem.1 hx;have:=Ei (step:=Br q l) (fun i x r hd=>by
  unfold Br at hd;split at hd
  ·cases hd;decide
  ·split at hd
   ·cases hd
   ·split at hd
    ·split at hd
     ·cases hd;decide
     ·cases hd
    ·cases hd) l 0 h j l[j] (getElem?_eq_getElem hj)
 unfold Br at this;split at this
 ·cases this
 ·rename_i hc;simpa using hc
theorem Fj {q:List Int} {h:AN} (hv:Dk q h=true):0≤h.node∧h.node<q.length∧0≤h.frm∧h.frm<h.to∧h.to≤1099511627776∧1≤h.size∧h.size≤65536∧0≤h.ticket∧h.ticket≤1152921504606846976:=by unfold Dk at hv;simpa using hv
theorem HJ {q:List Int} {l:List AN} (h:GQ q l=0):Ft l:=fun x hx=>by have:=Fj (Vi h x hx);omega
theorem Is {q:List Int} {cs:List AA} (h:AY q cs=0):∀Q∈q,0≤Q∧Q≤1073741824:=fun Q hQ=>by
 unfold AY at h;split at h
 ·cases h
 ·split at h
  ·rename_i hq;have:=all_eq_true.1 hq Q hQ;unfold qOk at this;simpa using this
  ·cases h
theorem OH {q:List Int} {cs:List AA} {l:List AN} (h:DY q cs l=0):AY q cs=0∧l.length≤512∧GQ q l=0∧Nl q l=true:=by
 unfold DY at h;split at h
 ·cases h
 ·split at h
  ·cases h
  ·split at h
   ·contradiction
   ·split at h
    ·rename_i h1 h2 h3 h4;exact ⟨by omega,by omega,by omega,h4⟩
    ·cases h
theorem Ni {l:List AN}:∀(q:List Int) (i:Nat),(∀(j:Nat) Q,q[j]? = some Q→GP (levels l (i+j:Nat))≤Q)→A6 (E0 l) (fun _=>0) i q ()=0
 |[],_,_=>rfl
 |Q::q,i,h=>by
  have h0:=h 0 Q rfl;rw [add_zero] at h0;have e:E0 l i () Q = .next ():=by rw [E0,if_neg (by omega)]
  rw [A6,e];refine Ni q (i+1) fun j Q' hj => ?_;have:=h (j+1) Q' (by simpa using hj);rwa [show i+(j+1)=i+1+j by omega] at this
theorem PZ {q:List Int} {cs:List AA} {l:List AN} (h:DY q cs l=0):B0 q cs l=0:=by obtain ⟨h1,h2,h3,h4⟩:=OH h;have hs:=HJ h3;have hq:=Is h1;unfold B0;rw [if_neg (by omega),if_neg (by omega),if_neg (by omega)];refine Ni q 0 fun j Q hj => ?_;rw [zero_add];have hQ:=hq Q (mem_of_getElem? hj);unfold GP;refine Ss _ _ hQ.1 fun x hx => ?_;rw [((FE hs (by omega) (j:Nat)).1 x hx).2.2];refine Q5 hs hQ.1 (fun a ha hn => ?_) _;have:=all_eq_true.1 h4 a ha;simp only [decide_eq_true_eq] at this;rw [hn] at this;simp only [toNat_natCast,List.getD,hj,Option.getD_some] at this;exact this
theorem CY {q:List Int} {cs:List AA} {l:List AN} (h:B0 q cs l=0):AY q cs=0∧l.length≤512∧GQ q l=0:=by
 unfold B0 at h;split at h
 ·cases h
 ·split at h
  ·cases h
  ·split at h
   ·contradiction
   ·exact ⟨by omega,by omega,by omega⟩
end Ab
