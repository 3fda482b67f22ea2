/- A part of the proof: see the last text. -/
import Derived.Test.YtehmfejagbcnbaaGreatDoorM3
set_option linter.unusedVariables false
set_option linter.unusedSimpArgs false
open Int (tmod toNat)
open List (drop length replicate take)
set_option maxRecDepth 100000
namespace Ab
open Go Go.Proofs
noncomputable def Rh (n:Nat) (again25:(List AV×Heap)→Option (List Tree)) (p24:List AV×Heap) (p29:List AV×Heap):Option (List Tree):=
 again25 ([AV.t (tI (w64 ((vI p24 0)+(1:Int))))],[AA.row false (AF p29 0) (1:Nat) (oEs p29 0),AA.row false (AF p29 1) (1:Nat) (oEs p29 1),AA.row false (AF p29 2) (1:Nat) (oEs p29 2),
 AA.box [AV.t (Tree.sl (1:Nat) (cL p29 3 0)),AV.t (Tree.sl (7:Nat) (cL p29 3 1)),AV.t (Tree.sl (4:Nat) (cL p29 3 2)),AV.t (Tree.sl (5:Nat) (cL p29 3 3)),AV.t (tI (cI p29 3 4)),AV.t (tI (cI p29 3
 5)),AV.t (tI (cI p29 3 6)),AV.t (tI (cI p29 3 7)),AV.t (tI (cI p29 3 8)),AV.t (tI (cI p29 3 9)),AV.t (Tree.bool (cB p29 3 10)),AV.sref (0:Nat) (AD p29 3 11) (AE p29 3 11) (AB p29 3 11),
 AV.sref (1:Nat) (AD p29 3 12) (AE p29 3 12) (AB p29 3 12),AV.sref (2:Nat) (AD p29 3 13) (AE p29 3 13) (AB p29 3 13)],AA.box [AV.ptr (3:Nat) (0:Nat)],AA.row false (AF p29 5)
 (4:Nat) (oEs p29 5),AA.box [AV.sref (5:Nat) (AD p29 6 0) (AE p29 6 0) (AB p29 6 0)],AA.row false (AF p29 7) (4:Nat) (oEs p29 7),AA.box [AV.sref (7:Nat) (AD p29 8 0) (AE p29 8 0)
 (AB p29 8 0)]])
noncomputable def Rg (n:Nat) (again25:(List AV×Heap)→Option (List Tree)) (p24:List AV×Heap) (y26:List Tree) (p27:List AV×Heap):Option (List Tree):=
 join (fun (p29:List AV×Heap)=>Rh n again25 p24 p29) fun (again30:_→Option (List Tree))=>cnd (vB p27 0=true) (cnd (AF p27 7=AD p27 8 0∧((4:Nat)=(4:Nat)∨(4:Nat)=(0:Nat))∧
 (AE p27 8 0)+(AB p27 8 0)≤length (oEs p27 7)∧(AB p27 8 0)+(1:Nat)≤(1073741824:Nat)) (again30 ([],[AA.row false (AF p27 0) (1:Nat) (oEs p27 0),AA.row false (AF p27 1)
 (1:Nat) (oEs p27 1),AA.row false (AF p27 2) (1:Nat) (oEs p27 2),AA.box [AV.t (Tree.sl (1:Nat) (cL p27 3 0)),AV.t (Tree.sl (7:Nat) (cL p27 3 1)),AV.t (Tree.sl (4:Nat) (cL p27 3 2)),AV.t
 (Tree.sl (5:Nat) (cL p27 3 3)),AV.t (tI (cI p27 3 4)),AV.t (tI (cI p27 3 5)),AV.t (tI (cI p27 3 6)),AV.t (tI (cI p27 3 7)),AV.t (tI (cI p27 3 8)),AV.t (tI (cI p27 3 9)),AV.t (Tree.bool (cB p27
 3 10)),AV.sref (0:Nat) (AD p27 3 11) (AE p27 3 11) (AB p27 3 11),AV.sref (1:Nat) (AD p27 3 12) (AE p27 3 12) (AB p27 3 12),AV.sref (2:Nat) (AD p27 3 13) (AE p27 3 13) (AB p27 3
 13)],AA.box [AV.ptr (3:Nat) (0:Nat)],AA.row false (AF p27 5) (4:Nat) (oEs p27 5),AA.box [AV.sref (5:Nat) (AD p27 6 0) (AE p27 6 0) (AB p27 6 0)],AA.row false ((AD p27 8 0) +
 (1:Nat)) (4:Nat) ((take (AB p27 8 0) (drop (AE p27 8 0) (oEs p27 7)))++[[tI (cI p27 3 4),tI (gI y26 0),tI (gI y26 1),tI (cI p27 3 7)]]),AA.box [AV.sref (7:Nat) ((AD p27 8 0) +
 (1:Nat)) (0:Nat) ((AB p27 8 0)+(1:Nat))],AA.box []])) none) (again30 ([],[AA.row false (AF p27 0) (1:Nat) (oEs p27 0),AA.row false (AF p27 1) (1:Nat) (oEs p27 1),AA.row false (AF
 p27 2) (1:Nat) (oEs p27 2),AA.box [AV.t (Tree.sl (1:Nat) (cL p27 3 0)),AV.t (Tree.sl (7:Nat) (cL p27 3 1)),AV.t (Tree.sl (4:Nat) (cL p27 3 2)),AV.t (Tree.sl (5:Nat) (cL p27 3 3)),AV.t (tI (cI
 p27 3 4)),AV.t (tI (cI p27 3 5)),AV.t (tI (cI p27 3 6)),AV.t (tI (cI p27 3 7)),AV.t (tI (cI p27 3 8)),AV.t (tI (cI p27 3 9)),AV.t (Tree.bool (cB p27 3 10)),AV.sref (0:Nat) (AD p27 3 11) (AE
 p27 3 11) (AB p27 3 11),AV.sref (1:Nat) (AD p27 3 12) (AE p27 3 12) (AB p27 3 12),AV.sref (2:Nat) (AD p27 3 13) (AE p27 3 13) (AB p27 3 13)],AA.box [AV.ptr (3:Nat) (0:Nat)],
 AA.row false (AF p27 5) (4:Nat) (oEs p27 5),AA.box [AV.sref (5:Nat) (AD p27 6 0) (AE p27 6 0) (AB p27 6 0)],AA.row false (AF p27 7) (4:Nat) (oEs p27 7),AA.box [AV.sref (7:Nat)
 (AD p27 8 0) (AE p27 8 0) (AB p27 8 0)],AA.box []]))
noncomputable def J16_3 (n:Nat) (again39:(List AV×Heap)→Option (List Tree)) (p38:List AV×Heap) (p42:List AV×Heap):Option (List Tree):=
 again39 ([AV.t (tI (w64 ((vI p38 0)+(1:Int))))],[AA.row false (AF p42 0) (1:Nat) (oEs p42 0),AA.row false (AF p42 1) (1:Nat) (oEs p42 1),AA.row false (AF p42 2) (1:Nat) (oEs p42 2),
 AA.box [AV.t (Tree.sl (1:Nat) (cL p42 3 0)),AV.t (Tree.sl (7:Nat) (cL p42 3 1)),AV.t (Tree.sl (4:Nat) (cL p42 3 2)),AV.t (Tree.sl (5:Nat) (cL p42 3 3)),AV.t (tI (cI p42 3 4)),AV.t (tI (cI p42 3
 5)),AV.t (tI (cI p42 3 6)),AV.t (tI (cI p42 3 7)),AV.t (tI (cI p42 3 8)),AV.t (tI (cI p42 3 9)),AV.t (Tree.bool (cB p42 3 10)),AV.sref (0:Nat) (AD p42 3 11) (AE p42 3 11) (AB p42 3 11),
 AV.sref (1:Nat) (AD p42 3 12) (AE p42 3 12) (AB p42 3 12),AV.sref (2:Nat) (AD p42 3 13) (AE p42 3 13) (AB p42 3 13)],AA.box [AV.ptr (3:Nat) (0:Nat)],AA.row false (AF p42 5)
 (4:Nat) (oEs p42 5),AA.box [AV.sref (5:Nat) (AD p42 6 0) (AE p42 6 0) (AB p42 6 0)],AA.row false (AF p42 7) (4:Nat) (oEs p42 7),AA.box [AV.sref (7:Nat) (AD p42 8 0) (AE p42 8 0)
 (AB p42 8 0)],AA.box [AV.t (tI (cI p42 9 0)),AV.t (tI (cI p42 9 1)),AV.t (tI (cI p42 9 2)),AV.t (tI (cI p42 9 3))],AA.box [AV.t (tI (cI p42 10 0)),AV.t (tI (cI p42 10 1)),AV.t (tI (cI p42
 10 2)),AV.t (tI (cI p42 10 3))]])
noncomputable def Rf (n:Nat) (p31:List AV×Heap) (again34:(List AV×Heap)→Option (List Tree)) (p38:List AV×Heap) (again39:(List AV×Heap)→Option (List Tree)):Option (List Tree):=
 cnd (AF p38 7=AD p31 8 0) (cnd (decide (vI p38 0<((AB p31 8 0:Nat):Int))=true) (cnd (AF p38 7=AD p31 8 0∧(4:Nat)=(4:Nat)∧(0:Int)≤vI p38 0∧vI p38 0<((AB p31 8
 0:Nat):Int)) (cnd (AF p38 7=AD p31 8 0) (Option.bind (oEs p38 7)[(AE p31 8 0)+(toNat (vI p38 0))]? fun y40=>cnd (okI y40 0) (cnd (okI y40 1) (cnd (okI y40 2) (cnd (okI y40 3)
 (Option.bind (AM C n (88:Nat) [tI (gI y40 0),tI (gI y40 1),tI (gI y40 2),tI (gI y40 3),tI (cI p38 10 0),tI (cI p38 10 1),tI (cI p38 10 2),tI (cI p38 10 3)]) fun y41=>cnd (length y41 =
 (1:Nat)) (cnd (okI y41 0) (join (fun (p42:List AV×Heap)=>J16_3 n again39 p38 p42) fun (again43:_→Option (List Tree))=>cnd (decide (gI y41 0<(0:Int))=true) (cnd (AF p38 7=AD p31 8
 0∧(4:Nat)=(4:Nat)∧(0:Int)≤vI p38 0∧vI p38 0<((AB p31 8 0:Nat):Int)) (cnd (AF p38 7=AD p31 8 0) (Option.bind (oEs p38 7)[(AE p31 8 0)+(toNat (vI p38 0))]? fun y44=>cnd
 (okI y44 0) (cnd (okI y44 1) (cnd (okI y44 2) (cnd (okI y44 3) (again43 ([],[AA.row false (AF p38 0) (1:Nat) (oEs p38 0),AA.row false (AF p38 1) (1:Nat) (oEs p38 1),AA.row false (AF p38
 2) (1:Nat) (oEs p38 2),AA.box [AV.t (Tree.sl (1:Nat) (cL p38 3 0)),AV.t (Tree.sl (7:Nat) (cL p38 3 1)),AV.t (Tree.sl (4:Nat) (cL p38 3 2)),AV.t (Tree.sl (5:Nat) (cL p38 3 3)),AV.t (tI (cI p38 3
 4)),AV.t (tI (cI p38 3 5)),AV.t (tI (cI p38 3 6)),AV.t (tI (cI p38 3 7)),AV.t (tI (cI p38 3 8)),AV.t (tI (cI p38 3 9)),AV.t (Tree.bool (cB p38 3 10)),AV.sref (0:Nat) (AD p38 3 11) (AE p38 3
 11) (AB p38 3 11),AV.sref (1:Nat) (AD p38 3 12) (AE p38 3 12) (AB p38 3 12),AV.sref (2:Nat) (AD p38 3 13) (AE p38 3 13) (AB p38 3 13)],AA.box [AV.ptr (3:Nat) (0:Nat)],AA.row
 false (AF p38 5) (4:Nat) (oEs p38 5),AA.box [AV.sref (5:Nat) (AD p38 6 0) (AE p38 6 0) (AB p38 6 0)],AA.row false (AF p38 7) (4:Nat) (oEs p38 7),AA.box [AV.sref (7:Nat) (AD p38 8
 0) (AE p38 8 0) (AB p38 8 0)],AA.box [AV.t (tI (cI p38 9 0)),AV.t (tI (cI p38 9 1)),AV.t (tI (cI p38 9 2)),AV.t (tI (cI p38 9 3))],AA.box [AV.t (tI (gI y44 0)),AV.t (tI (gI y44 1)),AV.t
 (tI (gI y44 2)),AV.t (tI (gI y44 3))]])) none) none) none) none) none) none) (again43 ([],[AA.row false (AF p38 0) (1:Nat) (oEs p38 0),AA.row false (AF p38 1) (1:Nat) (oEs p38 1),AA.row
 false (AF p38 2) (1:Nat) (oEs p38 2),AA.box [AV.t (Tree.sl (1:Nat) (cL p38 3 0)),AV.t (Tree.sl (7:Nat) (cL p38 3 1)),AV.t (Tree.sl (4:Nat) (cL p38 3 2)),AV.t (Tree.sl (5:Nat) (cL p38 3 3)),
 AV.t (tI (cI p38 3 4)),AV.t (tI (cI p38 3 5)),AV.t (tI (cI p38 3 6)),AV.t (tI (cI p38 3 7)),AV.t (tI (cI p38 3 8)),AV.t (tI (cI p38 3 9)),AV.t (Tree.bool (cB p38 3 10)),AV.sref (0:Nat) (AD
 p38 3 11) (AE p38 3 11) (AB p38 3 11),AV.sref (1:Nat) (AD p38 3 12) (AE p38 3 12) (AB p38 3 12),AV.sref (2:Nat) (AD p38 3 13) (AE p38 3 13) (AB p38 3 13)],AA.box [AV.ptr (3:Nat)
 (0:Nat)],AA.row false (AF p38 5) (4:Nat) (oEs p38 5),AA.box [AV.sref (5:Nat) (AD p38 6 0) (AE p38 6 0) (AB p38 6 0)],AA.row false (AF p38 7) (4:Nat) (oEs p38 7),AA.box [AV.sref
 (7:Nat) (AD p38 8 0) (AE p38 8 0) (AB p38 8 0)],AA.box [AV.t (tI (cI p38 9 0)),AV.t (tI (cI p38 9 1)),AV.t (tI (cI p38 9 2)),AV.t (tI (cI p38 9 3))],AA.box [AV.t (tI (cI p38 10 0)),
 AV.t (tI (cI p38 10 1)),AV.t (tI (cI p38 10 2)),AV.t (tI (cI p38 10 3))]]))) none) none) none) none) none) none) none) none) (again34 ([AV.t (tI (cI p38 10 0)),AV.t (tI (cI p38 10 1)),AV.t (tI (cI
 p38 10 2)),AV.t (tI (cI p38 10 3))],[AA.row false (AF p38 0) (1:Nat) (oEs p38 0),AA.row false (AF p38 1) (1:Nat) (oEs p38 1),AA.row false (AF p38 2) (1:Nat) (oEs p38 2),AA.box [AV.t
 (Tree.sl (1:Nat) (cL p38 3 0)),AV.t (Tree.sl (7:Nat) (cL p38 3 1)),AV.t (Tree.sl (4:Nat) (cL p38 3 2)),AV.t (Tree.sl (5:Nat) (cL p38 3 3)),AV.t (tI (cI p38 3 4)),AV.t (tI (cI p38 3 5)),AV.t (tI
 (cI p38 3 6)),AV.t (tI (cI p38 3 7)),AV.t (tI (cI p38 3 8)),AV.t (tI (cI p38 3 9)),AV.t (Tree.bool (cB p38 3 10)),AV.sref (0:Nat) (AD p38 3 11) (AE p38 3 11) (AB p38 3 11),AV.sref (1:Nat)
 (AD p38 3 12) (AE p38 3 12) (AB p38 3 12),AV.sref (2:Nat) (AD p38 3 13) (AE p38 3 13) (AB p38 3 13)],AA.box [AV.ptr (3:Nat) (0:Nat)],AA.row false (AF p38 5) (4:Nat) (oEs p38 5),
 AA.box [AV.sref (5:Nat) (AD p38 6 0) (AE p38 6 0) (AB p38 6 0)],AA.row false (AF p38 7) (4:Nat) (oEs p38 7),AA.box [AV.sref (7:Nat) (AD p38 8 0) (AE p38 8 0) (AB p38 8 0)]])))
 none
noncomputable def Re (n:Nat) (p33:List AV×Heap) (again46:(List AV×Heap)→Option (List Tree)) (p47:List AV×Heap) (again48:(List AV×Heap)→Option (List Tree)):Option (List Tree):=
 cnd (decide (vI p47 0<((AB p33 8 0:Nat):Int))=true) (cnd (AF p47 7=AD p33 8 0∧(4:Nat)=(4:Nat)∧(0:Int)≤vI p47 0∧vI p47 0<((AB p33 8 0:Nat):Int)) (cnd (AF p47 7=AD p33 8
 0) (Option.bind (oEs p47 7)[(AE p33 8 0)+(toNat (vI p47 0))]? fun y49=>cnd (okI y49 0) (cnd (okI y49 1) (cnd (okI y49 2) (cnd (okI y49 3) (Option.bind (AM C n (91:Nat) [tI (vI p33 0),tI
 (vI p33 1),tI (vI p33 2),tI (vI p33 3),tI (gI y49 0),tI (gI y49 1),tI (gI y49 2),tI (gI y49 3)]) fun y52=>cnd (length y52=(1:Nat)) (cnd (okB y52 0) (cnd (gB y52 0=true) (again46
 ([AV.t (tI (vI p47 0))],[AA.row false (AF p47 0) (1:Nat) (oEs p47 0),AA.row false (AF p47 1) (1:Nat) (oEs p47 1),AA.row false (AF p47 2) (1:Nat) (oEs p47 2),AA.box [AV.t (Tree.sl
 (1:Nat) (cL p47 3 0)),AV.t (Tree.sl (7:Nat) (cL p47 3 1)),AV.t (Tree.sl (4:Nat) (cL p47 3 2)),AV.t (Tree.sl (5:Nat) (cL p47 3 3)),AV.t (tI (cI p47 3 4)),AV.t (tI (cI p47 3 5)),AV.t (tI (cI p47 3
 6)),AV.t (tI (cI p47 3 7)),AV.t (tI (cI p47 3 8)),AV.t (tI (cI p47 3 9)),AV.t (Tree.bool (cB p47 3 10)),AV.sref (0:Nat) (AD p47 3 11) (AE p47 3 11) (AB p47 3 11),AV.sref (1:Nat) (AD p47
 3 12) (AE p47 3 12) (AB p47 3 12),AV.sref (2:Nat) (AD p47 3 13) (AE p47 3 13) (AB p47 3 13)],AA.box [AV.ptr (3:Nat) (0:Nat)],AA.row false (AF p47 5) (4:Nat) (oEs p47 5),AA.box
 [AV.sref (5:Nat) (AD p47 6 0) (AE p47 6 0) (AB p47 6 0)],AA.row false (AF p47 7) (4:Nat) (oEs p47 7),AA.box [AV.sref (7:Nat) (AD p47 8 0) (AE p47 8 0) (AB p47 8 0)],AA.box []]))
 (again48 ([AV.t (tI (w64 ((vI p47 0)+(1:Int))))],[AA.row false (AF p47 0) (1:Nat) (oEs p47 0),AA.row false (AF p47 1) (1:Nat) (oEs p47 1),AA.row false (AF p47 2) (1:Nat) (oEs p47 2),
 AA.box [AV.t (Tree.sl (1:Nat) (cL p47 3 0)),AV.t (Tree.sl (7:Nat) (cL p47 3 1)),AV.t (Tree.sl (4:Nat) (cL p47 3 2)),AV.t (Tree.sl (5:Nat) (cL p47 3 3)),AV.t (tI (cI p47 3 4)),AV.t (tI (cI p47 3
 5)),AV.t (tI (cI p47 3 6)),AV.t (tI (cI p47 3 7)),AV.t (tI (cI p47 3 8)),AV.t (tI (cI p47 3 9)),AV.t (Tree.bool (cB p47 3 10)),AV.sref (0:Nat) (AD p47 3 11) (AE p47 3 11) (AB p47 3 11),
 AV.sref (1:Nat) (AD p47 3 12) (AE p47 3 12) (AB p47 3 12),AV.sref (2:Nat) (AD p47 3 13) (AE p47 3 13) (AB p47 3 13)],AA.box [AV.ptr (3:Nat) (0:Nat)],AA.row false (AF p47 5)
 (4:Nat) (oEs p47 5),AA.box [AV.sref (5:Nat) (AD p47 6 0) (AE p47 6 0) (AB p47 6 0)],AA.row false (AF p47 7) (4:Nat) (oEs p47 7),AA.box [AV.sref (7:Nat) (AD p47 8 0) (AE p47 8 0)
 (AB p47 8 0)],AA.box []]))) none) none) none) none) none) none) none) none) (again46 ([AV.t (tI (-1:Int))],[AA.row false (AF p47 0) (1:Nat) (oEs p47 0),AA.row false (AF p47 1) (1:Nat)
 (oEs p47 1),AA.row false (AF p47 2) (1:Nat) (oEs p47 2),AA.box [AV.t (Tree.sl (1:Nat) (cL p47 3 0)),AV.t (Tree.sl (7:Nat) (cL p47 3 1)),AV.t (Tree.sl (4:Nat) (cL p47 3 2)),AV.t (Tree.sl
 (5:Nat) (cL p47 3 3)),AV.t (tI (cI p47 3 4)),AV.t (tI (cI p47 3 5)),AV.t (tI (cI p47 3 6)),AV.t (tI (cI p47 3 7)),AV.t (tI (cI p47 3 8)),AV.t (tI (cI p47 3 9)),AV.t (Tree.bool (cB p47 3 10)),
 AV.sref (0:Nat) (AD p47 3 11) (AE p47 3 11) (AB p47 3 11),AV.sref (1:Nat) (AD p47 3 12) (AE p47 3 12) (AB p47 3 12),AV.sref (2:Nat) (AD p47 3 13) (AE p47 3 13) (AB p47 3 13)],
 AA.box [AV.ptr (3:Nat) (0:Nat)],AA.row false (AF p47 5) (4:Nat) (oEs p47 5),AA.box [AV.sref (5:Nat) (AD p47 6 0) (AE p47 6 0) (AB p47 6 0)],AA.row false (AF p47 7) (4:Nat) (oEs
 p47 7),AA.box [AV.sref (7:Nat) (AD p47 8 0) (AE p47 8 0) (AB p47 8 0)],AA.box []]))
noncomputable def L16_6 (n:Nat) (y66:List Tree) (y62:List Tree) (p33:List AV×Heap) (y65:List Tree) (p53:List AV×Heap) (again64:(List AV×Heap)→Option (List Tree)) (p67:List AV×Heap) (again68:(List AV×Heap)→Option (List Tree)):Option (List Tree):=
 cnd (decide (vI p67 0<((length (gL y66 0):Nat):Int))=true) (cnd ((2:Nat)=(2:Nat)∧(0:Int)≤vI p67 0) (Option.bind (gL y66 0)[toNat (vI p67 0)]? fun y69=>cnd (okI y69 0) (cnd (okI
 y69 1) (cnd (decide (w64 ((if (if gI y62 0>vI p33 3 then gI y62 0 else vI p33 3)>gI y69 0 then (if gI y62 0>vI p33 3 then gI y62 0 else vI p33 3) else gI y69 0)+(gI y65 0))≤gI y69 1)=true)
 (cnd ((7:Nat)=(7:Nat)∧(0:Int)≤vI p53 0) (Option.bind (cL p67 3 1)[toNat (vI p53 0)]? fun y70=>cnd (okI y70 5) (again64 ([AV.t (tI (vI p53 0)),AV.t (tI (if (if gI y62 0>vI p33 3 then gI
 y62 0 else vI p33 3)>gI y69 0 then (if gI y62 0>vI p33 3 then gI y62 0 else vI p33 3) else gI y69 0)),AV.t (tI (w64 ((if (if gI y62 0>vI p33 3 then gI y62 0 else vI p33 3)>gI y69 0 then (if
 gI y62 0>vI p33 3 then gI y62 0 else vI p33 3) else gI y69 0)+(gI y65 0)))),AV.t (tI (w64 ((w64 ((if (if gI y62 0>vI p33 3 then gI y62 0 else vI p33 3)>gI y69 0 then (if gI y62 0>vI p33 3
 then gI y62 0 else vI p33 3) else gI y69 0)+(gI y65 0)))+(gI y70 5)))),AV.t (Tree.bool true)],[AA.row false (AF p67 0) (1:Nat) (oEs p67 0),AA.row false (AF p67 1) (1:Nat) (oEs p67 1),
 AA.row false (AF p67 2) (1:Nat) (oEs p67 2),AA.box [AV.t (Tree.sl (1:Nat) (cL p67 3 0)),AV.t (Tree.sl (7:Nat) (cL p67 3 1)),AV.t (Tree.sl (4:Nat) (cL p67 3 2)),AV.t (Tree.sl (5:Nat) (cL p67
 3 3)),AV.t (tI (cI p67 3 4)),AV.t (tI (cI p67 3 5)),AV.t (tI (cI p67 3 6)),AV.t (tI (cI p67 3 7)),AV.t (tI (cI p67 3 8)),AV.t (tI (cI p67 3 9)),AV.t (Tree.bool (cB p67 3 10)),AV.sref (0:Nat)
 (AD p67 3 11) (AE p67 3 11) (AB p67 3 11),AV.sref (1:Nat) (AD p67 3 12) (AE p67 3 12) (AB p67 3 12),AV.sref (2:Nat) (AD p67 3 13) (AE p67 3 13) (AB p67 3 13)],AA.box [AV.ptr
 (3:Nat) (0:Nat)],AA.row false (AF p67 5) (4:Nat) (oEs p67 5),AA.box [AV.sref (5:Nat) (AD p67 6 0) (AE p67 6 0) (AB p67 6 0)],AA.row false (AF p67 7) (4:Nat) (oEs p67 7),AA.box
 [AV.sref (7:Nat) (AD p67 8 0) (AE p67 8 0) (AB p67 8 0)],AA.box [],AA.box [AV.ptr (3:Nat) (0:Nat)],AA.box [],AA.box [],AA.box []])) none) none) (again68 ([AV.t (tI (w64 ((vI p67
 0)+(1:Int))))],[AA.row false (AF p67 0) (1:Nat) (oEs p67 0),AA.row false (AF p67 1) (1:Nat) (oEs p67 1),AA.row false (AF p67 2) (1:Nat) (oEs p67 2),AA.box [AV.t (Tree.sl (1:Nat)
 (cL p67 3 0)),AV.t (Tree.sl (7:Nat) (cL p67 3 1)),AV.t (Tree.sl (4:Nat) (cL p67 3 2)),AV.t (Tree.sl (5:Nat) (cL p67 3 3)),AV.t (tI (cI p67 3 4)),AV.t (tI (cI p67 3 5)),AV.t (tI (cI p67 3 6)),
 AV.t (tI (cI p67 3 7)),AV.t (tI (cI p67 3 8)),AV.t (tI (cI p67 3 9)),AV.t (Tree.bool (cB p67 3 10)),AV.sref (0:Nat) (AD p67 3 11) (AE p67 3 11) (AB p67 3 11),AV.sref (1:Nat) (AD p67 3 12)
 (AE p67 3 12) (AB p67 3 12),AV.sref (2:Nat) (AD p67 3 13) (AE p67 3 13) (AB p67 3 13)],AA.box [AV.ptr (3:Nat) (0:Nat)],AA.row false (AF p67 5) (4:Nat) (oEs p67 5),AA.box [AV.sref
 (5:Nat) (AD p67 6 0) (AE p67 6 0) (AB p67 6 0)],AA.row false (AF p67 7) (4:Nat) (oEs p67 7),AA.box [AV.sref (7:Nat) (AD p67 8 0) (AE p67 8 0) (AB p67 8 0)],AA.box [],AA.box
 [AV.ptr (3:Nat) (0:Nat)],AA.box [],AA.box [],AA.box [],AA.box [AV.t (tI (cI p67 14 0)),AV.t (tI (cI p67 14 1)),AV.t (tI (cI p67 14 2)),AV.t (tI (cI p67 14 3))]]))) none) none) none)
 (again64 ([AV.t (tI (0:Int)),AV.t (tI (0:Int)),AV.t (tI (0:Int)),AV.t (tI (0:Int)),AV.t (Tree.bool false)],[AA.row false (AF p67 0) (1:Nat) (oEs p67 0),AA.row false (AF p67 1) (1:Nat)
 (oEs p67 1),AA.row false (AF p67 2) (1:Nat) (oEs p67 2),AA.box [AV.t (Tree.sl (1:Nat) (cL p67 3 0)),AV.t (Tree.sl (7:Nat) (cL p67 3 1)),AV.t (Tree.sl (4:Nat) (cL p67 3 2)),AV.t (Tree.sl
 (5:Nat) (cL p67 3 3)),AV.t (tI (cI p67 3 4)),AV.t (tI (cI p67 3 5)),AV.t (tI (cI p67 3 6)),AV.t (tI (cI p67 3 7)),AV.t (tI (cI p67 3 8)),AV.t (tI (cI p67 3 9)),AV.t (Tree.bool (cB p67 3 10)),
 AV.sref (0:Nat) (AD p67 3 11) (AE p67 3 11) (AB p67 3 11),AV.sref (1:Nat) (AD p67 3 12) (AE p67 3 12) (AB p67 3 12),AV.sref (2:Nat) (AD p67 3 13) (AE p67 3 13) (AB p67 3 13)],
 AA.box [AV.ptr (3:Nat) (0:Nat)],AA.row false (AF p67 5) (4:Nat) (oEs p67 5),AA.box [AV.sref (5:Nat) (AD p67 6 0) (AE p67 6 0) (AB p67 6 0)],AA.row false (AF p67 7) (4:Nat) (oEs
 p67 7),AA.box [AV.sref (7:Nat) (AD p67 8 0) (AE p67 8 0) (AB p67 8 0)],AA.box [],AA.box [AV.ptr (3:Nat) (0:Nat)],AA.box [],AA.box [],AA.box []]))
noncomputable def J16_7 (n:Nat) (p33:List AV×Heap) (again72:(List AV×Heap)→Option (List Tree)) (p63:List AV×Heap) (y57:List Tree) (y62:List Tree) (p73:List AV×Heap):Option (List Tree):=
 cnd (decide (vI p73 0>vI p33 2)=true) (again72 ([AV.t (Tree.bool true)],[AA.row false (AF p73 0) (1:Nat) (oEs p73 0),AA.row false (AF p73 1) (1:Nat) (oEs p73 1),AA.row false (AF p73
 2) (1:Nat) (oEs p73 2),AA.box [AV.t (Tree.sl (1:Nat) (cL p73 3 0)),AV.t (Tree.sl (7:Nat) (cL p73 3 1)),AV.t (Tree.sl (4:Nat) (cL p73 3 2)),AV.t (Tree.sl (5:Nat) (cL p73 3 3)),AV.t (tI (cI p73 3
 4)),AV.t (tI (cI p73 3 5)),AV.t (tI (cI p73 3 6)),AV.t (tI (cI p73 3 7)),AV.t (tI (cI p73 3 8)),AV.t (tI (cI p73 3 9)),AV.t (Tree.bool (cB p73 3 10)),AV.sref (0:Nat) (AD p73 3 11) (AE p73 3
 11) (AB p73 3 11),AV.sref (1:Nat) (AD p73 3 12) (AE p73 3 12) (AB p73 3 12),AV.sref (2:Nat) (AD p73 3 13) (AE p73 3 13) (AB p73 3 13)],AA.box [AV.ptr (3:Nat) (0:Nat)],AA.row
 false (AF p73 5) (4:Nat) (oEs p73 5),AA.box [AV.sref (5:Nat) (AD p73 6 0) (AE p73 6 0) (AB p73 6 0)],AA.row false (AF p73 7) (4:Nat) (oEs p73 7),AA.box [AV.sref (7:Nat) (AD p73 8
 0) (AE p73 8 0) (AB p73 8 0)],AA.box [],AA.box [AV.ptr (3:Nat) (0:Nat)],AA.box [],AA.box [],AA.box [],AA.box []])) (cnd (decide (vI p63 3>cI p73 3 8)=true) (again72 ([AV.t
 (Tree.bool true)],[AA.row false (AF p73 0) (1:Nat) (oEs p73 0),AA.row false (AF p73 1) (1:Nat) (oEs p73 1),AA.row false (AF p73 2) (1:Nat) (oEs p73 2),AA.box [AV.t (Tree.sl (1:Nat)
 (cL p73 3 0)),AV.t (Tree.sl (7:Nat) (cL p73 3 1)),AV.t (Tree.sl (4:Nat) (cL p73 3 2)),AV.t (Tree.sl (5:Nat) (cL p73 3 3)),AV.t (tI (cI p73 3 4)),AV.t (tI (cI p73 3 5)),AV.t (tI (cI p73 3 6)),
 AV.t (tI (cI p73 3 7)),AV.t (tI (cI p73 3 8)),AV.t (tI (cI p73 3 9)),AV.t (Tree.bool (cB p73 3 10)),AV.sref (0:Nat) (AD p73 3 11) (AE p73 3 11) (AB p73 3 11),AV.sref (1:Nat) (AD p73 3 12)
 (AE p73 3 12) (AB p73 3 12),AV.sref (2:Nat) (AD p73 3 13) (AE p73 3 13) (AB p73 3 13)],AA.box [AV.ptr (3:Nat) (0:Nat)],AA.row false (AF p73 5) (4:Nat) (oEs p73 5),AA.box [AV.sref
 (5:Nat) (AD p73 6 0) (AE p73 6 0) (AB p73 6 0)],AA.row false (AF p73 7) (4:Nat) (oEs p73 7),AA.box [AV.sref (7:Nat) (AD p73 8 0) (AE p73 8 0) (AB p73 8 0)],AA.box [],AA.box
 [AV.ptr (3:Nat) (0:Nat)],AA.box [],AA.box [],AA.box [],AA.box []])) (cnd (((gI y57 1) != (cI p73 3 5))=true) (again72 ([AV.t (Tree.bool (decide (vI p63 3≥gI y62 1)))],[AA.row false
 (AF p73 0) (1:Nat) (oEs p73 0),AA.row false (AF p73 1) (1:Nat) (oEs p73 1),AA.row false (AF p73 2) (1:Nat) (oEs p73 2),AA.box [AV.t (Tree.sl (1:Nat) (cL p73 3 0)),AV.t (Tree.sl (7:Nat)
 (cL p73 3 1)),AV.t (Tree.sl (4:Nat) (cL p73 3 2)),AV.t (Tree.sl (5:Nat) (cL p73 3 3)),AV.t (tI (cI p73 3 4)),AV.t (tI (cI p73 3 5)),AV.t (tI (cI p73 3 6)),AV.t (tI (cI p73 3 7)),AV.t (tI (cI
 p73 3 8)),AV.t (tI (cI p73 3 9)),AV.t (Tree.bool (cB p73 3 10)),AV.sref (0:Nat) (AD p73 3 11) (AE p73 3 11) (AB p73 3 11),AV.sref (1:Nat) (AD p73 3 12) (AE p73 3 12) (AB p73 3 12),
 AV.sref (2:Nat) (AD p73 3 13) (AE p73 3 13) (AB p73 3 13)],AA.box [AV.ptr (3:Nat) (0:Nat)],AA.row false (AF p73 5) (4:Nat) (oEs p73 5),AA.box [AV.sref (5:Nat) (AD p73 6 0) (AE p73
 6 0) (AB p73 6 0)],AA.row false (AF p73 7) (4:Nat) (oEs p73 7),AA.box [AV.sref (7:Nat) (AD p73 8 0) (AE p73 8 0) (AB p73 8 0)],AA.box [],AA.box [AV.ptr (3:Nat) (0:Nat)],AA.box
 [],AA.box [],AA.box [],AA.box []])) (again72 ([AV.t (Tree.bool false)],[AA.row false (AF p73 0) (1:Nat) (oEs p73 0),AA.row false (AF p73 1) (1:Nat) (oEs p73 1),AA.row false (AF
 p73 2) (1:Nat) (oEs p73 2),AA.box [AV.t (Tree.sl (1:Nat) (cL p73 3 0)),AV.t (Tree.sl (7:Nat) (cL p73 3 1)),AV.t (Tree.sl (4:Nat) (cL p73 3 2)),AV.t (Tree.sl (5:Nat) (cL p73 3 3)),AV.t (tI (cI
 p73 3 4)),AV.t (tI (cI p73 3 5)),AV.t (tI (cI p73 3 6)),AV.t (tI (cI p73 3 7)),AV.t (tI (cI p73 3 8)),AV.t (tI (cI p73 3 9)),AV.t (Tree.bool (cB p73 3 10)),AV.sref (0:Nat) (AD p73 3 11) (AE
 p73 3 11) (AB p73 3 11),AV.sref (1:Nat) (AD p73 3 12) (AE p73 3 12) (AB p73 3 12),AV.sref (2:Nat) (AD p73 3 13) (AE p73 3 13) (AB p73 3 13)],AA.box [AV.ptr (3:Nat) (0:Nat)],
 AA.row false (AF p73 5) (4:Nat) (oEs p73 5),AA.box [AV.sref (5:Nat) (AD p73 6 0) (AE p73 6 0) (AB p73 6 0)],AA.row false (AF p73 7) (4:Nat) (oEs p73 7),AA.box [AV.sref (7:Nat)
 (AD p73 8 0) (AE p73 8 0) (AB p73 8 0)],AA.box [],AA.box [AV.ptr (3:Nat) (0:Nat)],AA.box [],AA.box [],AA.box [],AA.box []]))))
noncomputable def L16_8 (n:Nat) (p71:List AV×Heap) (y57:List Tree) (y62:List Tree) (p63:List AV×Heap) (again81:(List AV×Heap)→Option (List Tree)) (p82:List AV×Heap) (again83:(List AV×Heap)→Option (List Tree)):Option (List Tree):=
 cnd (decide (vI p82 0<((AB p71 6 0:Nat):Int))=true) (cnd (AF p82 5=AD p71 6 0∧(4:Nat)=(4:Nat)∧(0:Int)≤vI p82 0∧vI p82 0<((AB p71 6 0:Nat):Int)) (cnd (AF p82 5=AD p71 6
 0) (Option.bind (oEs p82 5)[(AE p71 6 0)+(toNat (vI p82 0))]? fun y84=>cnd (okI y84 0) (cnd (okI y84 1) (cnd (okI y84 2) (cnd (okI y84 3) (Option.bind (AM C n (91:Nat) [tI (gI y57 1),tI
 (gI y62 0),tI (gI y62 1),tI (vI p63 3),tI (gI y84 0),tI (gI y84 1),tI (gI y84 2),tI (gI y84 3)]) fun y87=>cnd (length y87=(1:Nat)) (cnd (okB y87 0) (cnd (gB y87 0=true) (again81
 ([AV.t (tI (vI p82 0))],[AA.row false (AF p82 0) (1:Nat) (oEs p82 0),AA.row false (AF p82 1) (1:Nat) (oEs p82 1),AA.row false (AF p82 2) (1:Nat) (oEs p82 2),AA.box [AV.t (Tree.sl
 (1:Nat) (cL p82 3 0)),AV.t (Tree.sl (7:Nat) (cL p82 3 1)),AV.t (Tree.sl (4:Nat) (cL p82 3 2)),AV.t (Tree.sl (5:Nat) (cL p82 3 3)),AV.t (tI (cI p82 3 4)),AV.t (tI (cI p82 3 5)),AV.t (tI (cI p82 3
 6)),AV.t (tI (cI p82 3 7)),AV.t (tI (cI p82 3 8)),AV.t (tI (cI p82 3 9)),AV.t (Tree.bool (cB p82 3 10)),AV.sref (0:Nat) (AD p82 3 11) (AE p82 3 11) (AB p82 3 11),AV.sref (1:Nat) (AD p82
 3 12) (AE p82 3 12) (AB p82 3 12),AV.sref (2:Nat) (AD p82 3 13) (AE p82 3 13) (AB p82 3 13)],AA.box [AV.ptr (3:Nat) (0:Nat)],AA.row false (AF p82 5) (4:Nat) (oEs p82 5),AA.box
 [AV.sref (5:Nat) (AD p82 6 0) (AE p82 6 0) (AB p82 6 0)],AA.row false (AF p82 7) (4:Nat) (oEs p82 7),AA.box [AV.sref (7:Nat) (AD p82 8 0) (AE p82 8 0) (AB p82 8 0)],AA.box [],
 AA.box [AV.ptr (3:Nat) (0:Nat)],AA.box [],AA.box [],AA.box [],AA.box [],AA.box []])) (again83 ([AV.t (tI (w64 ((vI p82 0)+(1:Int))))],[AA.row false (AF p82 0) (1:Nat) (oEs p82
 0),AA.row false (AF p82 1) (1:Nat) (oEs p82 1),AA.row false (AF p82 2) (1:Nat) (oEs p82 2),AA.box [AV.t (Tree.sl (1:Nat) (cL p82 3 0)),AV.t (Tree.sl (7:Nat) (cL p82 3 1)),AV.t (Tree.sl
 (4:Nat) (cL p82 3 2)),AV.t (Tree.sl (5:Nat) (cL p82 3 3)),AV.t (tI (cI p82 3 4)),AV.t (tI (cI p82 3 5)),AV.t (tI (cI p82 3 6)),AV.t (tI (cI p82 3 7)),AV.t (tI (cI p82 3 8)),AV.t (tI (cI p82 3
 9)),AV.t (Tree.bool (cB p82 3 10)),AV.sref (0:Nat) (AD p82 3 11) (AE p82 3 11) (AB p82 3 11),AV.sref (1:Nat) (AD p82 3 12) (AE p82 3 12) (AB p82 3 12),AV.sref (2:Nat) (AD p82 3 13)
 (AE p82 3 13) (AB p82 3 13)],AA.box [AV.ptr (3:Nat) (0:Nat)],AA.row false (AF p82 5) (4:Nat) (oEs p82 5),AA.box [AV.sref (5:Nat) (AD p82 6 0) (AE p82 6 0) (AB p82 6 0)],AA.row
 false (AF p82 7) (4:Nat) (oEs p82 7),AA.box [AV.sref (7:Nat) (AD p82 8 0) (AE p82 8 0) (AB p82 8 0)],AA.box [],AA.box [AV.ptr (3:Nat) (0:Nat)],AA.box [],AA.box [],AA.box [],
 AA.box [],AA.box []]))) none) none) none) none) none) none) none) none) (again81 ([AV.t (tI (-1:Int))],[AA.row false (AF p82 0) (1:Nat) (oEs p82 0),AA.row false (AF p82 1) (1:Nat) (oEs
 p82 1),AA.row false (AF p82 2) (1:Nat) (oEs p82 2),AA.box [AV.t (Tree.sl (1:Nat) (cL p82 3 0)),AV.t (Tree.sl (7:Nat) (cL p82 3 1)),AV.t (Tree.sl (4:Nat) (cL p82 3 2)),AV.t (Tree.sl (5:Nat)
 (cL p82 3 3)),AV.t (tI (cI p82 3 4)),AV.t (tI (cI p82 3 5)),AV.t (tI (cI p82 3 6)),AV.t (tI (cI p82 3 7)),AV.t (tI (cI p82 3 8)),AV.t (tI (cI p82 3 9)),AV.t (Tree.bool (cB p82 3 10)),AV.sref
 (0:Nat) (AD p82 3 11) (AE p82 3 11) (AB p82 3 11),AV.sref (1:Nat) (AD p82 3 12) (AE p82 3 12) (AB p82 3 12),AV.sref (2:Nat) (AD p82 3 13) (AE p82 3 13) (AB p82 3 13)],AA.box
 [AV.ptr (3:Nat) (0:Nat)],AA.row false (AF p82 5) (4:Nat) (oEs p82 5),AA.box [AV.sref (5:Nat) (AD p82 6 0) (AE p82 6 0) (AB p82 6 0)],AA.row false (AF p82 7) (4:Nat) (oEs p82 7),
 AA.box [AV.sref (7:Nat) (AD p82 8 0) (AE p82 8 0) (AB p82 8 0)],AA.box [],AA.box [AV.ptr (3:Nat) (0:Nat)],AA.box [],AA.box [],AA.box [],AA.box [],AA.box []]))
noncomputable def J16_9 (n:Nat) (again79:(List AV×Heap)→Option (List Tree)) (p80:List AV×Heap):Option (List Tree):=
 again79 ([AV.t (Tree.bool (decide (vI p80 0≥(0:Int))))],[AA.row false (AF p80 0) (1:Nat) (oEs p80 0),AA.row false (AF p80 1) (1:Nat) (oEs p80 1),AA.row false (AF p80 2) (1:Nat) (oEs
 p80 2),AA.box [AV.t (Tree.sl (1:Nat) (cL p80 3 0)),AV.t (Tree.sl (7:Nat) (cL p80 3 1)),AV.t (Tree.sl (4:Nat) (cL p80 3 2)),AV.t (Tree.sl (5:Nat) (cL p80 3 3)),AV.t (tI (cI p80 3 4)),AV.t (tI
 (cI p80 3 5)),AV.t (tI (cI p80 3 6)),AV.t (tI (cI p80 3 7)),AV.t (tI (cI p80 3 8)),AV.t (tI (cI p80 3 9)),AV.t (Tree.bool (cB p80 3 10)),AV.sref (0:Nat) (AD p80 3 11) (AE p80 3 11) (AB p80
 3 11),AV.sref (1:Nat) (AD p80 3 12) (AE p80 3 12) (AB p80 3 12),AV.sref (2:Nat) (AD p80 3 13) (AE p80 3 13) (AB p80 3 13)],AA.box [AV.ptr (3:Nat) (0:Nat)],AA.row false (AF p80 5)
 (4:Nat) (oEs p80 5),AA.box [AV.sref (5:Nat) (AD p80 6 0) (AE p80 6 0) (AB p80 6 0)],AA.row false (AF p80 7) (4:Nat) (oEs p80 7),AA.box [AV.sref (7:Nat) (AD p80 8 0) (AE p80 8 0)
 (AB p80 8 0)],AA.box [],AA.box [AV.ptr (3:Nat) (0:Nat)],AA.box [],AA.box [],AA.box [],AA.box [],AA.box []])
noncomputable def J16_10 (n:Nat) (again77:(List AV×Heap)→Option (List Tree)) (p78:List AV×Heap):Option (List Tree):=
 again77 ([AV.t (Tree.bool (!(vB p78 0)))],[AA.row false (AF p78 0) (1:Nat) (oEs p78 0),AA.row false (AF p78 1) (1:Nat) (oEs p78 1),AA.row false (AF p78 2) (1:Nat) (oEs p78 2),AA.box
 [AV.t (Tree.sl (1:Nat) (cL p78 3 0)),AV.t (Tree.sl (7:Nat) (cL p78 3 1)),AV.t (Tree.sl (4:Nat) (cL p78 3 2)),AV.t (Tree.sl (5:Nat) (cL p78 3 3)),AV.t (tI (cI p78 3 4)),AV.t (tI (cI p78 3 5)),
 AV.t (tI (cI p78 3 6)),AV.t (tI (cI p78 3 7)),AV.t (tI (cI p78 3 8)),AV.t (tI (cI p78 3 9)),AV.t (Tree.bool (cB p78 3 10)),AV.sref (0:Nat) (AD p78 3 11) (AE p78 3 11) (AB p78 3 11),AV.sref
 (1:Nat) (AD p78 3 12) (AE p78 3 12) (AB p78 3 12),AV.sref (2:Nat) (AD p78 3 13) (AE p78 3 13) (AB p78 3 13)],AA.box [AV.ptr (3:Nat) (0:Nat)],AA.row false (AF p78 5) (4:Nat) (oEs
 p78 5),AA.box [AV.sref (5:Nat) (AD p78 6 0) (AE p78 6 0) (AB p78 6 0)],AA.row false (AF p78 7) (4:Nat) (oEs p78 7),AA.box [AV.sref (7:Nat) (AD p78 8 0) (AE p78 8 0) (AB p78 8
 0)],AA.box [],AA.box [AV.ptr (3:Nat) (0:Nat)],AA.box [],AA.box [],AA.box [],AA.box [],AA.box []])
noncomputable def J16_11 (n:Nat) (again61:(List AV×Heap)→Option (List Tree)) (p88:List AV×Heap):Option (List Tree):=
 again61 ([],[AA.row false (AF p88 0) (1:Nat) (oEs p88 0),AA.row false (AF p88 1) (1:Nat) (oEs p88 1),AA.row false (AF p88 2) (1:Nat) (oEs p88 2),AA.box [AV.t (Tree.sl (1:Nat) (cL p88
 3 0)),AV.t (Tree.sl (7:Nat) (cL p88 3 1)),AV.t (Tree.sl (4:Nat) (cL p88 3 2)),AV.t (Tree.sl (5:Nat) (cL p88 3 3)),AV.t (tI (cI p88 3 4)),AV.t (tI (cI p88 3 5)),AV.t (tI (cI p88 3 6)),AV.t (tI
 (cI p88 3 7)),AV.t (tI (cI p88 3 8)),AV.t (tI (cI p88 3 9)),AV.t (Tree.bool (cB p88 3 10)),AV.sref (0:Nat) (AD p88 3 11) (AE p88 3 11) (AB p88 3 11),AV.sref (1:Nat) (AD p88 3 12) (AE
 p88 3 12) (AB p88 3 12),AV.sref (2:Nat) (AD p88 3 13) (AE p88 3 13) (AB p88 3 13)],AA.box [AV.ptr (3:Nat) (0:Nat)],AA.row false (AF p88 5) (4:Nat) (oEs p88 5),AA.box [AV.sref
 (5:Nat) (AD p88 6 0) (AE p88 6 0) (AB p88 6 0)],AA.row false (AF p88 7) (4:Nat) (oEs p88 7),AA.box [AV.sref (7:Nat) (AD p88 8 0) (AE p88 8 0) (AB p88 8 0)],AA.box [],AA.box
 [AV.ptr (3:Nat) (0:Nat)],AA.box [],AA.box []])
noncomputable def J16_12 (n:Nat) (again61:(List AV×Heap)→Option (List Tree)) (y57:List Tree) (y62:List Tree) (p63:List AV×Heap) (p76:List AV×Heap):Option (List Tree):=
 join (fun (p88:List AV×Heap)=>J16_11 n again61 p88) fun (again89:_→Option (List Tree))=>cnd (vB p76 0=true) (cnd (AF p76 7=AD p76 8 0∧((4:Nat)=(4:Nat)∨(4:Nat)=(0:Nat))∧
 (AE p76 8 0)+(AB p76 8 0)≤length (oEs p76 7)∧(AB p76 8 0)+(1:Nat)≤(1073741824:Nat)) (again89 ([],[AA.row false (AF p76 0) (1:Nat) (oEs p76 0),AA.row false (AF p76 1)
 (1:Nat) (oEs p76 1),AA.row false (AF p76 2) (1:Nat) (oEs p76 2),AA.box [AV.t (Tree.sl (1:Nat) (cL p76 3 0)),AV.t (Tree.sl (7:Nat) (cL p76 3 1)),AV.t (Tree.sl (4:Nat) (cL p76 3 2)),AV.t
 (Tree.sl (5:Nat) (cL p76 3 3)),AV.t (tI (cI p76 3 4)),AV.t (tI (cI p76 3 5)),AV.t (tI (cI p76 3 6)),AV.t (tI (cI p76 3 7)),AV.t (tI (cI p76 3 8)),AV.t (tI (cI p76 3 9)),AV.t (Tree.bool (cB p76
 3 10)),AV.sref (0:Nat) (AD p76 3 11) (AE p76 3 11) (AB p76 3 11),AV.sref (1:Nat) (AD p76 3 12) (AE p76 3 12) (AB p76 3 12),AV.sref (2:Nat) (AD p76 3 13) (AE p76 3 13) (AB p76 3
 13)],AA.box [AV.ptr (3:Nat) (0:Nat)],AA.row false (AF p76 5) (4:Nat) (oEs p76 5),AA.box [AV.sref (5:Nat) (AD p76 6 0) (AE p76 6 0) (AB p76 6 0)],AA.row false ((AD p76 8 0) +
 (1:Nat)) (4:Nat) ((take (AB p76 8 0) (drop (AE p76 8 0) (oEs p76 7)))++[[tI (gI y57 1),tI (gI y62 0),tI (gI y62 1),tI (vI p63 3)]]),AA.box [AV.sref (7:Nat) ((AD p76 8 0) +
 (1:Nat)) (0:Nat) ((AB p76 8 0)+(1:Nat))],AA.box [],AA.box [AV.ptr (3:Nat) (0:Nat)],AA.box [],AA.box [],AA.box [],AA.box [],AA.box []])) none) (again89 ([],[AA.row false
 (AF p76 0) (1:Nat) (oEs p76 0),AA.row false (AF p76 1) (1:Nat) (oEs p76 1),AA.row false (AF p76 2) (1:Nat) (oEs p76 2),AA.box [AV.t (Tree.sl (1:Nat) (cL p76 3 0)),AV.t (Tree.sl (7:Nat)
 (cL p76 3 1)),AV.t (Tree.sl (4:Nat) (cL p76 3 2)),AV.t (Tree.sl (5:Nat) (cL p76 3 3)),AV.t (tI (cI p76 3 4)),AV.t (tI (cI p76 3 5)),AV.t (tI (cI p76 3 6)),AV.t (tI (cI p76 3 7)),AV.t (tI (cI
 p76 3 8)),AV.t (tI (cI p76 3 9)),AV.t (Tree.bool (cB p76 3 10)),AV.sref (0:Nat) (AD p76 3 11) (AE p76 3 11) (AB p76 3 11),AV.sref (1:Nat) (AD p76 3 12) (AE p76 3 12) (AB p76 3 12),
 AV.sref (2:Nat) (AD p76 3 13) (AE p76 3 13) (AB p76 3 13)],AA.box [AV.ptr (3:Nat) (0:Nat)],AA.row false (AF p76 5) (4:Nat) (oEs p76 5),AA.box [AV.sref (5:Nat) (AD p76 6 0) (AE p76
 6 0) (AB p76 6 0)],AA.row false (AF p76 7) (4:Nat) (oEs p76 7),AA.box [AV.sref (7:Nat) (AD p76 8 0) (AE p76 8 0) (AB p76 8 0)],AA.box [],AA.box [AV.ptr (3:Nat) (0:Nat)],AA.box
 [],AA.box [],AA.box [],AA.box [],AA.box []]))
noncomputable def J16_13 (n:Nat) (again61:(List AV×Heap)→Option (List Tree)) (y57:List Tree) (y62:List Tree) (p63:List AV×Heap) (p71:List AV×Heap):Option (List Tree):=
 cnd (vB p71 0=true) (again61 ([],[AA.row false (AF p71 0) (1:Nat) (oEs p71 0),AA.row false (AF p71 1) (1:Nat) (oEs p71 1),AA.row false (AF p71 2) (1:Nat) (oEs p71 2),AA.box [AV.t
 (Tree.sl (1:Nat) (cL p71 3 0)),AV.t (Tree.sl (7:Nat) (cL p71 3 1)),AV.t (Tree.sl (4:Nat) (cL p71 3 2)),AV.t (Tree.sl (5:Nat) (cL p71 3 3)),AV.t (tI (cI p71 3 4)),AV.t (tI (cI p71 3 5)),AV.t (tI
 (cI p71 3 6)),AV.t (tI (cI p71 3 7)),AV.t (tI (cI p71 3 8)),AV.t (tI (cI p71 3 9)),AV.t (Tree.bool (cB p71 3 10)),AV.sref (0:Nat) (AD p71 3 11) (AE p71 3 11) (AB p71 3 11),AV.sref (1:Nat)
 (AD p71 3 12) (AE p71 3 12) (AB p71 3 12),AV.sref (2:Nat) (AD p71 3 13) (AE p71 3 13) (AB p71 3 13)],AA.box [AV.ptr (3:Nat) (0:Nat)],AA.row false (AF p71 5) (4:Nat) (oEs p71 5),
 AA.box [AV.sref (5:Nat) (AD p71 6 0) (AE p71 6 0) (AB p71 6 0)],AA.row false (AF p71 7) (4:Nat) (oEs p71 7),AA.box [AV.sref (7:Nat) (AD p71 8 0) (AE p71 8 0) (AB p71 8 0)],
 AA.box [],AA.box [AV.ptr (3:Nat) (0:Nat)],AA.box [],AA.box []])) (join (fun (p76:List AV×Heap)=>J16_12 n again61 y57 y62 p63 p76) fun (again77:_→Option (List Tree))=>cnd (((gI
 y57 1) != (cI p71 3 5))=true) (join (fun (p78:List AV×Heap)=>J16_10 n again77 p78) fun (again79:_→Option (List Tree))=>join (fun (p80:List AV×Heap)=>J16_9 n again79 p80) fun
 (again81:_→Option (List Tree))=>cnd (AF p71 5=AD p71 6 0) (AO (fun (p82:List AV×Heap) (again83:_→Option (List Tree))=>L16_8 n p71 y57 y62 p63 again81 p82 again83) n ([AV.t
 (tI (0:Int))],[AA.row false (AF p71 0) (1:Nat) (oEs p71 0),AA.row false (AF p71 1) (1:Nat) (oEs p71 1),AA.row false (AF p71 2) (1:Nat) (oEs p71 2),AA.box [AV.t (Tree.sl (1:Nat) (cL
 p71 3 0)),AV.t (Tree.sl (7:Nat) (cL p71 3 1)),AV.t (Tree.sl (4:Nat) (cL p71 3 2)),AV.t (Tree.sl (5:Nat) (cL p71 3 3)),AV.t (tI (cI p71 3 4)),AV.t (tI (cI p71 3 5)),AV.t (tI (cI p71 3 6)),AV.t
 (tI (cI p71 3 7)),AV.t (tI (cI p71 3 8)),AV.t (tI (cI p71 3 9)),AV.t (Tree.bool (cB p71 3 10)),AV.sref (0:Nat) (AD p71 3 11) (AE p71 3 11) (AB p71 3 11),AV.sref (1:Nat) (AD p71 3 12)
 (AE p71 3 12) (AB p71 3 12),AV.sref (2:Nat) (AD p71 3 13) (AE p71 3 13) (AB p71 3 13)],AA.box [AV.ptr (3:Nat) (0:Nat)],AA.row false (AF p71 5) (4:Nat) (oEs p71 5),AA.box [AV.sref
 (5:Nat) (AD p71 6 0) (AE p71 6 0) (AB p71 6 0)],AA.row false (AF p71 7) (4:Nat) (oEs p71 7),AA.box [AV.sref (7:Nat) (AD p71 8 0) (AE p71 8 0) (AB p71 8 0)],AA.box [],AA.box
 [AV.ptr (3:Nat) (0:Nat)],AA.box [],AA.box [],AA.box [],AA.box [],AA.box []])) none) (again77 ([AV.t (Tree.bool false)],[AA.row false (AF p71 0) (1:Nat) (oEs p71 0),AA.row false
 (AF p71 1) (1:Nat) (oEs p71 1),AA.row false (AF p71 2) (1:Nat) (oEs p71 2),AA.box [AV.t (Tree.sl (1:Nat) (cL p71 3 0)),AV.t (Tree.sl (7:Nat) (cL p71 3 1)),AV.t (Tree.sl (4:Nat) (cL p71 3
 2)),AV.t (Tree.sl (5:Nat) (cL p71 3 3)),AV.t (tI (cI p71 3 4)),AV.t (tI (cI p71 3 5)),AV.t (tI (cI p71 3 6)),AV.t (tI (cI p71 3 7)),AV.t (tI (cI p71 3 8)),AV.t (tI (cI p71 3 9)),AV.t
 (Tree.bool (cB p71 3 10)),AV.sref (0:Nat) (AD p71 3 11) (AE p71 3 11) (AB p71 3 11),AV.sref (1:Nat) (AD p71 3 12) (AE p71 3 12) (AB p71 3 12),AV.sref (2:Nat) (AD p71 3 13) (AE p71 3
 13) (AB p71 3 13)],AA.box [AV.ptr (3:Nat) (0:Nat)],AA.row false (AF p71 5) (4:Nat) (oEs p71 5),AA.box [AV.sref (5:Nat) (AD p71 6 0) (AE p71 6 0) (AB p71 6 0)],AA.row false (AF
 p71 7) (4:Nat) (oEs p71 7),AA.box [AV.sref (7:Nat) (AD p71 8 0) (AE p71 8 0) (AB p71 8 0)],AA.box [],AA.box [AV.ptr (3:Nat) (0:Nat)],AA.box [],AA.box [],AA.box [],AA.box [],
 AA.box []])))
noncomputable def J16_14 (n:Nat) (again61:(List AV×Heap)→Option (List Tree)) (y57:List Tree) (y62:List Tree) (p33:List AV×Heap) (p63:List AV×Heap):Option (List Tree):=
 join (fun (p71:List AV×Heap)=>J16_13 n again61 y57 y62 p63 p71) fun (again72:_→Option (List Tree))=>cnd ((!(vB p63 4))=true) (again72 ([AV.t (Tree.bool true)],[AA.row false (AF p63
 0) (1:Nat) (oEs p63 0),AA.row false (AF p63 1) (1:Nat) (oEs p63 1),AA.row false (AF p63 2) (1:Nat) (oEs p63 2),AA.box [AV.t (Tree.sl (1:Nat) (cL p63 3 0)),AV.t (Tree.sl (7:Nat) (cL p63 3
 1)),AV.t (Tree.sl (4:Nat) (cL p63 3 2)),AV.t (Tree.sl (5:Nat) (cL p63 3 3)),AV.t (tI (cI p63 3 4)),AV.t (tI (cI p63 3 5)),AV.t (tI (cI p63 3 6)),AV.t (tI (cI p63 3 7)),AV.t (tI (cI p63 3 8)),
 AV.t (tI (cI p63 3 9)),AV.t (Tree.bool (cB p63 3 10)),AV.sref (0:Nat) (AD p63 3 11) (AE p63 3 11) (AB p63 3 11),AV.sref (1:Nat) (AD p63 3 12) (AE p63 3 12) (AB p63 3 12),AV.sref
 (2:Nat) (AD p63 3 13) (AE p63 3 13) (AB p63 3 13)],AA.box [AV.ptr (3:Nat) (0:Nat)],AA.row false (AF p63 5) (4:Nat) (oEs p63 5),AA.box [AV.sref (5:Nat) (AD p63 6 0) (AE p63 6 0)
 (AB p63 6 0)],AA.row false (AF p63 7) (4:Nat) (oEs p63 7),AA.box [AV.sref (7:Nat) (AD p63 8 0) (AE p63 8 0) (AB p63 8 0)],AA.box [],AA.box [AV.ptr (3:Nat) (0:Nat)],AA.box [],
 AA.box [],AA.box [],AA.box []])) (join (fun (p73:List AV×Heap)=>J16_7 n p33 again72 p63 y57 y62 p73) fun (again74:_→Option (List Tree))=>cnd (cB p63 3 10=true) (cnd ((7:Nat)=
 (7:Nat)∧(0:Int)≤vI p63 0) (Option.bind (cL p63 3 1)[toNat (vI p63 0)]? fun y75=>cnd (okI y75 5) (again74 ([AV.t (tI (w64 ((vI p63 2)+(w64 ((2:Int)*(gI y75 5))))))],[AA.row false (AF
 p63 0) (1:Nat) (oEs p63 0),AA.row false (AF p63 1) (1:Nat) (oEs p63 1),AA.row false (AF p63 2) (1:Nat) (oEs p63 2),AA.box [AV.t (Tree.sl (1:Nat) (cL p63 3 0)),AV.t (Tree.sl (7:Nat) (cL
 p63 3 1)),AV.t (Tree.sl (4:Nat) (cL p63 3 2)),AV.t (Tree.sl (5:Nat) (cL p63 3 3)),AV.t (tI (cI p63 3 4)),AV.t (tI (cI p63 3 5)),AV.t (tI (cI p63 3 6)),AV.t (tI (cI p63 3 7)),AV.t (tI (cI p63 3
 8)),AV.t (tI (cI p63 3 9)),AV.t (Tree.bool (cB p63 3 10)),AV.sref (0:Nat) (AD p63 3 11) (AE p63 3 11) (AB p63 3 11),AV.sref (1:Nat) (AD p63 3 12) (AE p63 3 12) (AB p63 3 12),AV.sref
 (2:Nat) (AD p63 3 13) (AE p63 3 13) (AB p63 3 13)],AA.box [AV.ptr (3:Nat) (0:Nat)],AA.row false (AF p63 5) (4:Nat) (oEs p63 5),AA.box [AV.sref (5:Nat) (AD p63 6 0) (AE p63 6 0)
 (AB p63 6 0)],AA.row false (AF p63 7) (4:Nat) (oEs p63 7),AA.box [AV.sref (7:Nat) (AD p63 8 0) (AE p63 8 0) (AB p63 8 0)],AA.box [],AA.box [AV.ptr (3:Nat) (0:Nat)],AA.box [],
 AA.box [],AA.box [],AA.box []])) none) none) (again74 ([AV.t (tI (vI p63 2))],[AA.row false (AF p63 0) (1:Nat) (oEs p63 0),AA.row false (AF p63 1) (1:Nat) (oEs p63 1),AA.row false
 (AF p63 2) (1:Nat) (oEs p63 2),AA.box [AV.t (Tree.sl (1:Nat) (cL p63 3 0)),AV.t (Tree.sl (7:Nat) (cL p63 3 1)),AV.t (Tree.sl (4:Nat) (cL p63 3 2)),AV.t (Tree.sl (5:Nat) (cL p63 3 3)),AV.t (tI
 (cI p63 3 4)),AV.t (tI (cI p63 3 5)),AV.t (tI (cI p63 3 6)),AV.t (tI (cI p63 3 7)),AV.t (tI (cI p63 3 8)),AV.t (tI (cI p63 3 9)),AV.t (Tree.bool (cB p63 3 10)),AV.sref (0:Nat) (AD p63 3 11)
 (AE p63 3 11) (AB p63 3 11),AV.sref (1:Nat) (AD p63 3 12) (AE p63 3 12) (AB p63 3 12),AV.sref (2:Nat) (AD p63 3 13) (AE p63 3 13) (AB p63 3 13)],AA.box [AV.ptr (3:Nat) (0:Nat)],
 AA.row false (AF p63 5) (4:Nat) (oEs p63 5),AA.box [AV.sref (5:Nat) (AD p63 6 0) (AE p63 6 0) (AB p63 6 0)],AA.row false (AF p63 7) (4:Nat) (oEs p63 7),AA.box [AV.sref (7:Nat)
 (AD p63 8 0) (AE p63 8 0) (AB p63 8 0)],AA.box [],AA.box [AV.ptr (3:Nat) (0:Nat)],AA.box [],AA.box [],AA.box [],AA.box []])))
noncomputable def J16_15 (n:Nat) (again59:(List AV×Heap)→Option (List Tree)) (p58:List AV×Heap) (p60:List AV×Heap):Option (List Tree):=
 again59 ([AV.t (tI (w64 ((vI p58 0)+(1:Int))))],[AA.row false (AF p60 0) (1:Nat) (oEs p60 0),AA.row false (AF p60 1) (1:Nat) (oEs p60 1),AA.row false (AF p60 2) (1:Nat) (oEs p60 2),
 AA.box [AV.t (Tree.sl (1:Nat) (cL p60 3 0)),AV.t (Tree.sl (7:Nat) (cL p60 3 1)),AV.t (Tree.sl (4:Nat) (cL p60 3 2)),AV.t (Tree.sl (5:Nat) (cL p60 3 3)),AV.t (tI (cI p60 3 4)),AV.t (tI (cI p60 3
 5)),AV.t (tI (cI p60 3 6)),AV.t (tI (cI p60 3 7)),AV.t (tI (cI p60 3 8)),AV.t (tI (cI p60 3 9)),AV.t (Tree.bool (cB p60 3 10)),AV.sref (0:Nat) (AD p60 3 11) (AE p60 3 11) (AB p60 3 11),
 AV.sref (1:Nat) (AD p60 3 12) (AE p60 3 12) (AB p60 3 12),AV.sref (2:Nat) (AD p60 3 13) (AE p60 3 13) (AB p60 3 13)],AA.box [AV.ptr (3:Nat) (0:Nat)],AA.row false (AF p60 5)
 (4:Nat) (oEs p60 5),AA.box [AV.sref (5:Nat) (AD p60 6 0) (AE p60 6 0) (AB p60 6 0)],AA.row false (AF p60 7) (4:Nat) (oEs p60 7),AA.box [AV.sref (7:Nat) (AD p60 8 0) (AE p60 8 0)
 (AB p60 8 0)],AA.box [],AA.box [AV.ptr (3:Nat) (0:Nat)],AA.box [],AA.box []])
noncomputable def L16_16 (n:Nat) (y57:List Tree) (p33:List AV×Heap) (p53:List AV×Heap) (again56:(List AV×Heap)→Option (List Tree)) (p58:List AV×Heap) (again59:(List AV×Heap)→Option (List Tree)):Option (List Tree):=
 cnd (decide (vI p58 0<(1:Int))=true) (join (fun (p60:List AV×Heap)=>J16_15 n again59 p58 p60) fun (again61:_→Option (List Tree))=>cnd ((2:Nat)=(2:Nat)∧(0:Int)≤vI p58 0)
 (Option.bind [[tI (0:Int),tI (1099511627776:Int)]][toNat (vI p58 0)]? fun y62=>cnd (okI y62 0) (cnd (okI y62 1) (join (fun (p63:List AV×Heap)=>J16_14 n again61 y57 y62 p33 p63) fun
 (again64:_→Option (List Tree))=>cnd (AF p58 2=AD p58 3 13∧(1:Nat)=(1:Nat)∧(0:Int)≤vI p53 0∧vI p53 0<((AB p58 3 13:Nat):Int)) (cnd (AF p58 2=AD p58 3 13) (Option.bind
 (oEs p58 2)[(AE p58 3 13)+(toNat (vI p53 0))]? fun y65=>cnd (okI y65 0) (cnd (AF p58 0=AD p58 3 11∧(1:Nat)=(1:Nat)∧(0:Int)≤vI p53 0∧vI p53 0<((AB p58 3 11:Nat):Int)) (cnd
 (AF p58 0=AD p58 3 11) (Option.bind (oEs p58 0)[(AE p58 3 11)+(toNat (vI p53 0))]? fun y66=>cnd (okL 2 y66 0) (AO (fun (p67:List AV×Heap) (again68:_→Option (List Tree))
 =>L16_6 n y66 y62 p33 y65 p53 again64 p67 again68) n ([AV.t (tI (0:Int))],[AA.row false (AF p58 0) (1:Nat) (oEs p58 0),AA.row false (AF p58 1) (1:Nat) (oEs p58 1),AA.row false (AF p58
 2) (1:Nat) (oEs p58 2),AA.box [AV.t (Tree.sl (1:Nat) (cL p58 3 0)),AV.t (Tree.sl (7:Nat) (cL p58 3 1)),AV.t (Tree.sl (4:Nat) (cL p58 3 2)),AV.t (Tree.sl (5:Nat) (cL p58 3 3)),AV.t (tI (cI p58 3
 4)),AV.t (tI (cI p58 3 5)),AV.t (tI (cI p58 3 6)),AV.t (tI (cI p58 3 7)),AV.t (tI (cI p58 3 8)),AV.t (tI (cI p58 3 9)),AV.t (Tree.bool (cB p58 3 10)),AV.sref (0:Nat) (AD p58 3 11) (AE p58 3
 11) (AB p58 3 11),AV.sref (1:Nat) (AD p58 3 12) (AE p58 3 12) (AB p58 3 12),AV.sref (2:Nat) (AD p58 3 13) (AE p58 3 13) (AB p58 3 13)],AA.box [AV.ptr (3:Nat) (0:Nat)],AA.row
 false (AF p58 5) (4:Nat) (oEs p58 5),AA.box [AV.sref (5:Nat) (AD p58 6 0) (AE p58 6 0) (AB p58 6 0)],AA.row false (AF p58 7) (4:Nat) (oEs p58 7),AA.box [AV.sref (7:Nat) (AD p58 8
 0) (AE p58 8 0) (AB p58 8 0)],AA.box [],AA.box [AV.ptr (3:Nat) (0:Nat)],AA.box [],AA.box [],AA.box [],AA.box [AV.t (tI (0:Int)),AV.t (tI (0:Int)),AV.t (tI (0:Int)),AV.t (tI
 (0:Int))]])) none) none) none) none) none) none) none) none) none) (again56 ([],[AA.row false (AF p58 0) (1:Nat) (oEs p58 0),AA.row false (AF p58 1) (1:Nat) (oEs p58 1),AA.row false (AF
 p58 2) (1:Nat) (oEs p58 2),AA.box [AV.t (Tree.sl (1:Nat) (cL p58 3 0)),AV.t (Tree.sl (7:Nat) (cL p58 3 1)),AV.t (Tree.sl (4:Nat) (cL p58 3 2)),AV.t (Tree.sl (5:Nat) (cL p58 3 3)),AV.t (tI (cI
 p58 3 4)),AV.t (tI (cI p58 3 5)),AV.t (tI (cI p58 3 6)),AV.t (tI (cI p58 3 7)),AV.t (tI (cI p58 3 8)),AV.t (tI (cI p58 3 9)),AV.t (Tree.bool (cB p58 3 10)),AV.sref (0:Nat) (AD p58 3 11) (AE
 p58 3 11) (AB p58 3 11),AV.sref (1:Nat) (AD p58 3 12) (AE p58 3 12) (AB p58 3 12),AV.sref (2:Nat) (AD p58 3 13) (AE p58 3 13) (AB p58 3 13)],AA.box [AV.ptr (3:Nat) (0:Nat)],
 AA.row false (AF p58 5) (4:Nat) (oEs p58 5),AA.box [AV.sref (5:Nat) (AD p58 6 0) (AE p58 6 0) (AB p58 6 0)],AA.row false (AF p58 7) (4:Nat) (oEs p58 7),AA.box [AV.sref (7:Nat)
 (AD p58 8 0) (AE p58 8 0) (AB p58 8 0)],AA.box [],AA.box [AV.ptr (3:Nat) (0:Nat)],AA.box []]))
noncomputable def L16_17 (n:Nat) (y99:List Tree) (y95:List Tree) (p33:List AV×Heap) (y98:List Tree) (p53:List AV×Heap) (again97:(List AV×Heap)→Option (List Tree)) (p100:List AV×Heap) (again101:(List AV×Heap)→Option (List Tree)):Option (List Tree):=
 cnd (decide (vI p100 0<((length (gL y99 0):Nat):Int))=true) (cnd ((2:Nat)=(2:Nat)∧(0:Int)≤vI p100 0) (Option.bind (gL y99 0)[toNat (vI p100 0)]? fun y102=>cnd (okI y102 0) (cnd
 (okI y102 1) (cnd (decide (w64 ((if (if gI y95 0>vI p33 3 then gI y95 0 else vI p33 3)>gI y102 0 then (if gI y95 0>vI p33 3 then gI y95 0 else vI p33 3) else gI y102 0)+(gI y98 0))≤gI y102
 1)=true) (cnd ((7:Nat)=(7:Nat)∧(0:Int)≤vI p53 0) (Option.bind (cL p100 3 1)[toNat (vI p53 0)]? fun y103=>cnd (okI y103 5) (again97 ([AV.t (tI (vI p53 0)),AV.t (tI (if (if gI y95 0>vI
 p33 3 then gI y95 0 else vI p33 3)>gI y102 0 then (if gI y95 0>vI p33 3 then gI y95 0 else vI p33 3) else gI y102 0)),AV.t (tI (w64 ((if (if gI y95 0>vI p33 3 then gI y95 0 else vI p33 3)>gI
 y102 0 then (if gI y95 0>vI p33 3 then gI y95 0 else vI p33 3) else gI y102 0)+(gI y98 0)))),AV.t (tI (w64 ((w64 ((if (if gI y95 0>vI p33 3 then gI y95 0 else vI p33 3)>gI y102 0 then (if gI
 y95 0>vI p33 3 then gI y95 0 else vI p33 3) else gI y102 0)+(gI y98 0)))+(gI y103 5)))),AV.t (Tree.bool true)],[AA.row false (AF p100 0) (1:Nat) (oEs p100 0),AA.row false (AF p100 1)
 (1:Nat) (oEs p100 1),AA.row false (AF p100 2) (1:Nat) (oEs p100 2),AA.box [AV.t (Tree.sl (1:Nat) (cL p100 3 0)),AV.t (Tree.sl (7:Nat) (cL p100 3 1)),AV.t (Tree.sl (4:Nat) (cL p100 3 2)),
 AV.t (Tree.sl (5:Nat) (cL p100 3 3)),AV.t (tI (cI p100 3 4)),AV.t (tI (cI p100 3 5)),AV.t (tI (cI p100 3 6)),AV.t (tI (cI p100 3 7)),AV.t (tI (cI p100 3 8)),AV.t (tI (cI p100 3 9)),AV.t
 (Tree.bool (cB p100 3 10)),AV.sref (0:Nat) (AD p100 3 11) (AE p100 3 11) (AB p100 3 11),AV.sref (1:Nat) (AD p100 3 12) (AE p100 3 12) (AB p100 3 12),AV.sref (2:Nat) (AD p100 3 13)
 (AE p100 3 13) (AB p100 3 13)],AA.box [AV.ptr (3:Nat) (0:Nat)],AA.row false (AF p100 5) (4:Nat) (oEs p100 5),AA.box [AV.sref (5:Nat) (AD p100 6 0) (AE p100 6 0) (AB p100 6 0)],
 AA.row false (AF p100 7) (4:Nat) (oEs p100 7),AA.box [AV.sref (7:Nat) (AD p100 8 0) (AE p100 8 0) (AB p100 8 0)],AA.box [],AA.box [AV.ptr (3:Nat) (0:Nat)],AA.box [],AA.box [],
 AA.box []])) none) none) (again101 ([AV.t (tI (w64 ((vI p100 0)+(1:Int))))],[AA.row false (AF p100 0) (1:Nat) (oEs p100 0),AA.row false (AF p100 1) (1:Nat) (oEs p100 1),AA.row false
 (AF p100 2) (1:Nat) (oEs p100 2),AA.box [AV.t (Tree.sl (1:Nat) (cL p100 3 0)),AV.t (Tree.sl (7:Nat) (cL p100 3 1)),AV.t (Tree.sl (4:Nat) (cL p100 3 2)),AV.t (Tree.sl (5:Nat) (cL p100 3 3)),
 AV.t (tI (cI p100 3 4)),AV.t (tI (cI p100 3 5)),AV.t (tI (cI p100 3 6)),AV.t (tI (cI p100 3 7)),AV.t (tI (cI p100 3 8)),AV.t (tI (cI p100 3 9)),AV.t (Tree.bool (cB p100 3 10)),AV.sref (0:Nat)
 (AD p100 3 11) (AE p100 3 11) (AB p100 3 11),AV.sref (1:Nat) (AD p100 3 12) (AE p100 3 12) (AB p100 3 12),AV.sref (2:Nat) (AD p100 3 13) (AE p100 3 13) (AB p100 3 13)],AA.box
 [AV.ptr (3:Nat) (0:Nat)],AA.row false (AF p100 5) (4:Nat) (oEs p100 5),AA.box [AV.sref (5:Nat) (AD p100 6 0) (AE p100 6 0) (AB p100 6 0)],AA.row false (AF p100 7) (4:Nat) (oEs p100
 7),AA.box [AV.sref (7:Nat) (AD p100 8 0) (AE p100 8 0) (AB p100 8 0)],AA.box [],AA.box [AV.ptr (3:Nat) (0:Nat)],AA.box [],AA.box [],AA.box [],AA.box [AV.t (tI (cI p100 14
 0)),AV.t (tI (cI p100 14 1)),AV.t (tI (cI p100 14 2)),AV.t (tI (cI p100 14 3))]]))) none) none) none) (again97 ([AV.t (tI (0:Int)),AV.t (tI (0:Int)),AV.t (tI (0:Int)),AV.t (tI (0:Int)),AV.t
 (Tree.bool false)],[AA.row false (AF p100 0) (1:Nat) (oEs p100 0),AA.row false (AF p100 1) (1:Nat) (oEs p100 1),AA.row false (AF p100 2) (1:Nat) (oEs p100 2),AA.box [AV.t (Tree.sl
 (1:Nat) (cL p100 3 0)),AV.t (Tree.sl (7:Nat) (cL p100 3 1)),AV.t (Tree.sl (4:Nat) (cL p100 3 2)),AV.t (Tree.sl (5:Nat) (cL p100 3 3)),AV.t (tI (cI p100 3 4)),AV.t (tI (cI p100 3 5)),AV.t (tI (cI
 p100 3 6)),AV.t (tI (cI p100 3 7)),AV.t (tI (cI p100 3 8)),AV.t (tI (cI p100 3 9)),AV.t (Tree.bool (cB p100 3 10)),AV.sref (0:Nat) (AD p100 3 11) (AE p100 3 11) (AB p100 3 11),AV.sref
 (1:Nat) (AD p100 3 12) (AE p100 3 12) (AB p100 3 12),AV.sref (2:Nat) (AD p100 3 13) (AE p100 3 13) (AB p100 3 13)],AA.box [AV.ptr (3:Nat) (0:Nat)],AA.row false (AF p100 5) (4:Nat)
 (oEs p100 5),AA.box [AV.sref (5:Nat) (AD p100 6 0) (AE p100 6 0) (AB p100 6 0)],AA.row false (AF p100 7) (4:Nat) (oEs p100 7),AA.box [AV.sref (7:Nat) (AD p100 8 0) (AE p100 8 0)
 (AB p100 8 0)],AA.box [],AA.box [AV.ptr (3:Nat) (0:Nat)],AA.box [],AA.box [],AA.box []]))
noncomputable def J16_18 (n:Nat) (p33:List AV×Heap) (again105:(List AV×Heap)→Option (List Tree)) (p96:List AV×Heap) (y57:List Tree) (y95:List Tree) (p106:List AV×Heap):Option (List Tree):=
 cnd (decide (vI p106 0>vI p33 2)=true) (again105 ([AV.t (Tree.bool true)],[AA.row false (AF p106 0) (1:Nat) (oEs p106 0),AA.row false (AF p106 1) (1:Nat) (oEs p106 1),AA.row false
 (AF p106 2) (1:Nat) (oEs p106 2),AA.box [AV.t (Tree.sl (1:Nat) (cL p106 3 0)),AV.t (Tree.sl (7:Nat) (cL p106 3 1)),AV.t (Tree.sl (4:Nat) (cL p106 3 2)),AV.t (Tree.sl (5:Nat) (cL p106 3 3)),
 AV.t (tI (cI p106 3 4)),AV.t (tI (cI p106 3 5)),AV.t (tI (cI p106 3 6)),AV.t (tI (cI p106 3 7)),AV.t (tI (cI p106 3 8)),AV.t (tI (cI p106 3 9)),AV.t (Tree.bool (cB p106 3 10)),AV.sref (0:Nat)
 (AD p106 3 11) (AE p106 3 11) (AB p106 3 11),AV.sref (1:Nat) (AD p106 3 12) (AE p106 3 12) (AB p106 3 12),AV.sref (2:Nat) (AD p106 3 13) (AE p106 3 13) (AB p106 3 13)],AA.box
 [AV.ptr (3:Nat) (0:Nat)],AA.row false (AF p106 5) (4:Nat) (oEs p106 5),AA.box [AV.sref (5:Nat) (AD p106 6 0) (AE p106 6 0) (AB p106 6 0)],AA.row false (AF p106 7) (4:Nat) (oEs p106
 7),AA.box [AV.sref (7:Nat) (AD p106 8 0) (AE p106 8 0) (AB p106 8 0)],AA.box [],AA.box [AV.ptr (3:Nat) (0:Nat)],AA.box [],AA.box [],AA.box [],AA.box []])) (cnd (decide (vI
 p96 3>cI p106 3 8)=true) (again105 ([AV.t (Tree.bool true)],[AA.row false (AF p106 0) (1:Nat) (oEs p106 0),AA.row false (AF p106 1) (1:Nat) (oEs p106 1),AA.row false (AF p106 2)
 (1:Nat) (oEs p106 2),AA.box [AV.t (Tree.sl (1:Nat) (cL p106 3 0)),AV.t (Tree.sl (7:Nat) (cL p106 3 1)),AV.t (Tree.sl (4:Nat) (cL p106 3 2)),AV.t (Tree.sl (5:Nat) (cL p106 3 3)),AV.t (tI (cI
 p106 3 4)),AV.t (tI (cI p106 3 5)),AV.t (tI (cI p106 3 6)),AV.t (tI (cI p106 3 7)),AV.t (tI (cI p106 3 8)),AV.t (tI (cI p106 3 9)),AV.t (Tree.bool (cB p106 3 10)),AV.sref (0:Nat) (AD p106 3
 11) (AE p106 3 11) (AB p106 3 11),AV.sref (1:Nat) (AD p106 3 12) (AE p106 3 12) (AB p106 3 12),AV.sref (2:Nat) (AD p106 3 13) (AE p106 3 13) (AB p106 3 13)],AA.box [AV.ptr (3:Nat)
 (0:Nat)],AA.row false (AF p106 5) (4:Nat) (oEs p106 5),AA.box [AV.sref (5:Nat) (AD p106 6 0) (AE p106 6 0) (AB p106 6 0)],AA.row false (AF p106 7) (4:Nat) (oEs p106 7),AA.box
 [AV.sref (7:Nat) (AD p106 8 0) (AE p106 8 0) (AB p106 8 0)],AA.box [],AA.box [AV.ptr (3:Nat) (0:Nat)],AA.box [],AA.box [],AA.box [],AA.box []])) (cnd (((gI y57 1) != (cI p106 3
 5))=true) (again105 ([AV.t (Tree.bool (decide (vI p96 3≥gI y95 1)))],[AA.row false (AF p106 0) (1:Nat) (oEs p106 0),AA.row false (AF p106 1) (1:Nat) (oEs p106 1),AA.row false (AF
 p106 2) (1:Nat) (oEs p106 2),AA.box [AV.t (Tree.sl (1:Nat) (cL p106 3 0)),AV.t (Tree.sl (7:Nat) (cL p106 3 1)),AV.t (Tree.sl (4:Nat) (cL p106 3 2)),AV.t (Tree.sl (5:Nat) (cL p106 3 3)),AV.t (tI
 (cI p106 3 4)),AV.t (tI (cI p106 3 5)),AV.t (tI (cI p106 3 6)),AV.t (tI (cI p106 3 7)),AV.t (tI (cI p106 3 8)),AV.t (tI (cI p106 3 9)),AV.t (Tree.bool (cB p106 3 10)),AV.sref (0:Nat) (AD p106
 3 11) (AE p106 3 11) (AB p106 3 11),AV.sref (1:Nat) (AD p106 3 12) (AE p106 3 12) (AB p106 3 12),AV.sref (2:Nat) (AD p106 3 13) (AE p106 3 13) (AB p106 3 13)],AA.box [AV.ptr
 (3:Nat) (0:Nat)],AA.row false (AF p106 5) (4:Nat) (oEs p106 5),AA.box [AV.sref (5:Nat) (AD p106 6 0) (AE p106 6 0) (AB p106 6 0)],AA.row false (AF p106 7) (4:Nat) (oEs p106 7),
 AA.box [AV.sref (7:Nat) (AD p106 8 0) (AE p106 8 0) (AB p106 8 0)],AA.box [],AA.box [AV.ptr (3:Nat) (0:Nat)],AA.box [],AA.box [],AA.box [],AA.box []])) (again105 ([AV.t
 (Tree.bool false)],[AA.row false (AF p106 0) (1:Nat) (oEs p106 0),AA.row false (AF p106 1) (1:Nat) (oEs p106 1),AA.row false (AF p106 2) (1:Nat) (oEs p106 2),AA.box [AV.t (Tree.sl
 (1:Nat) (cL p106 3 0)),AV.t (Tree.sl (7:Nat) (cL p106 3 1)),AV.t (Tree.sl (4:Nat) (cL p106 3 2)),AV.t (Tree.sl (5:Nat) (cL p106 3 3)),AV.t (tI (cI p106 3 4)),AV.t (tI (cI p106 3 5)),AV.t (tI (cI
 p106 3 6)),AV.t (tI (cI p106 3 7)),AV.t (tI (cI p106 3 8)),AV.t (tI (cI p106 3 9)),AV.t (Tree.bool (cB p106 3 10)),AV.sref (0:Nat) (AD p106 3 11) (AE p106 3 11) (AB p106 3 11),AV.sref
 (1:Nat) (AD p106 3 12) (AE p106 3 12) (AB p106 3 12),AV.sref (2:Nat) (AD p106 3 13) (AE p106 3 13) (AB p106 3 13)],AA.box [AV.ptr (3:Nat) (0:Nat)],AA.row false (AF p106 5) (4:Nat)
 (oEs p106 5),AA.box [AV.sref (5:Nat) (AD p106 6 0) (AE p106 6 0) (AB p106 6 0)],AA.row false (AF p106 7) (4:Nat) (oEs p106 7),AA.box [AV.sref (7:Nat) (AD p106 8 0) (AE p106 8 0)
 (AB p106 8 0)],AA.box [],AA.box [AV.ptr (3:Nat) (0:Nat)],AA.box [],AA.box [],AA.box [],AA.box []]))))
noncomputable def L16_19 (n:Nat) (p104:List AV×Heap) (y57:List Tree) (y95:List Tree) (p96:List AV×Heap) (again114:(List AV×Heap)→Option (List Tree)) (p115:List AV×Heap) (again116:(List AV×Heap)→Option (List Tree)):Option (List Tree):=
 cnd (decide (vI p115 0<((AB p104 6 0:Nat):Int))=true) (cnd (AF p115 5=AD p104 6 0∧(4:Nat)=(4:Nat)∧(0:Int)≤vI p115 0∧vI p115 0<((AB p104 6 0:Nat):Int)) (cnd (AF p115 5 =
 AD p104 6 0) (Option.bind (oEs p115 5)[(AE p104 6 0)+(toNat (vI p115 0))]? fun y117=>cnd (okI y117 0) (cnd (okI y117 1) (cnd (okI y117 2) (cnd (okI y117 3) (Option.bind (AM C n (91:Nat)
 [tI (gI y57 1),tI (gI y95 0),tI (gI y95 1),tI (vI p96 3),tI (gI y117 0),tI (gI y117 1),tI (gI y117 2),tI (gI y117 3)]) fun y120=>cnd (length y120=(1:Nat)) (cnd (okB y120 0) (cnd (gB
 y120 0=true) (again114 ([AV.t (tI (vI p115 0))],[AA.row false (AF p115 0) (1:Nat) (oEs p115 0),AA.row false (AF p115 1) (1:Nat) (oEs p115 1),AA.row false (AF p115 2) (1:Nat) (oEs p115
 2),AA.box [AV.t (Tree.sl (1:Nat) (cL p115 3 0)),AV.t (Tree.sl (7:Nat) (cL p115 3 1)),AV.t (Tree.sl (4:Nat) (cL p115 3 2)),AV.t (Tree.sl (5:Nat) (cL p115 3 3)),AV.t (tI (cI p115 3 4)),AV.t (tI
 (cI p115 3 5)),AV.t (tI (cI p115 3 6)),AV.t (tI (cI p115 3 7)),AV.t (tI (cI p115 3 8)),AV.t (tI (cI p115 3 9)),AV.t (Tree.bool (cB p115 3 10)),AV.sref (0:Nat) (AD p115 3 11) (AE p115 3 11)
 (AB p115 3 11),AV.sref (1:Nat) (AD p115 3 12) (AE p115 3 12) (AB p115 3 12),AV.sref (2:Nat) (AD p115 3 13) (AE p115 3 13) (AB p115 3 13)],AA.box [AV.ptr (3:Nat) (0:Nat)],AA.row
 false (AF p115 5) (4:Nat) (oEs p115 5),AA.box [AV.sref (5:Nat) (AD p115 6 0) (AE p115 6 0) (AB p115 6 0)],AA.row false (AF p115 7) (4:Nat) (oEs p115 7),AA.box [AV.sref (7:Nat) (AD
 p115 8 0) (AE p115 8 0) (AB p115 8 0)],AA.box [],AA.box [AV.ptr (3:Nat) (0:Nat)],AA.box [],AA.box [],AA.box [],AA.box [],AA.box []])) (again116 ([AV.t (tI (w64 ((vI p115 0) +
 (1:Int))))],[AA.row false (AF p115 0) (1:Nat) (oEs p115 0),AA.row false (AF p115 1) (1:Nat) (oEs p115 1),AA.row false (AF p115 2) (1:Nat) (oEs p115 2),AA.box [AV.t (Tree.sl (1:Nat)
 (cL p115 3 0)),AV.t (Tree.sl (7:Nat) (cL p115 3 1)),AV.t (Tree.sl (4:Nat) (cL p115 3 2)),AV.t (Tree.sl (5:Nat) (cL p115 3 3)),AV.t (tI (cI p115 3 4)),AV.t (tI (cI p115 3 5)),AV.t (tI (cI p115 3
 6)),AV.t (tI (cI p115 3 7)),AV.t (tI (cI p115 3 8)),AV.t (tI (cI p115 3 9)),AV.t (Tree.bool (cB p115 3 10)),AV.sref (0:Nat) (AD p115 3 11) (AE p115 3 11) (AB p115 3 11),AV.sref (1:Nat)
 (AD p115 3 12) (AE p115 3 12) (AB p115 3 12),AV.sref (2:Nat) (AD p115 3 13) (AE p115 3 13) (AB p115 3 13)],AA.box [AV.ptr (3:Nat) (0:Nat)],AA.row false (AF p115 5) (4:Nat) (oEs
 p115 5),AA.box [AV.sref (5:Nat) (AD p115 6 0) (AE p115 6 0) (AB p115 6 0)],AA.row false (AF p115 7) (4:Nat) (oEs p115 7),AA.box [AV.sref (7:Nat) (AD p115 8 0) (AE p115 8 0) (AB
 p115 8 0)],AA.box [],AA.box [AV.ptr (3:Nat) (0:Nat)],AA.box [],AA.box [],AA.box [],AA.box [],AA.box []]))) none) none) none) none) none) none) none) none) (again114 ([AV.t (tI
 (-1:Int))],[AA.row false (AF p115 0) (1:Nat) (oEs p115 0),AA.row false (AF p115 1) (1:Nat) (oEs p115 1),AA.row false (AF p115 2) (1:Nat) (oEs p115 2),AA.box [AV.t (Tree.sl (1:Nat)
 (cL p115 3 0)),AV.t (Tree.sl (7:Nat) (cL p115 3 1)),AV.t (Tree.sl (4:Nat) (cL p115 3 2)),AV.t (Tree.sl (5:Nat) (cL p115 3 3)),AV.t (tI (cI p115 3 4)),AV.t (tI (cI p115 3 5)),AV.t (tI (cI p115 3
 6)),AV.t (tI (cI p115 3 7)),AV.t (tI (cI p115 3 8)),AV.t (tI (cI p115 3 9)),AV.t (Tree.bool (cB p115 3 10)),AV.sref (0:Nat) (AD p115 3 11) (AE p115 3 11) (AB p115 3 11),AV.sref (1:Nat)
 (AD p115 3 12) (AE p115 3 12) (AB p115 3 12),AV.sref (2:Nat) (AD p115 3 13) (AE p115 3 13) (AB p115 3 13)],AA.box [AV.ptr (3:Nat) (0:Nat)],AA.row false (AF p115 5) (4:Nat) (oEs
 p115 5),AA.box [AV.sref (5:Nat) (AD p115 6 0) (AE p115 6 0) (AB p115 6 0)],AA.row false (AF p115 7) (4:Nat) (oEs p115 7),AA.box [AV.sref (7:Nat) (AD p115 8 0) (AE p115 8 0) (AB
 p115 8 0)],AA.box [],AA.box [AV.ptr (3:Nat) (0:Nat)],AA.box [],AA.box [],AA.box [],AA.box [],AA.box []]))
noncomputable def J16_20 (n:Nat) (again112:(List AV×Heap)→Option (List Tree)) (p113:List AV×Heap):Option (List Tree):=
 again112 ([AV.t (Tree.bool (decide (vI p113 0≥(0:Int))))],[AA.row false (AF p113 0) (1:Nat) (oEs p113 0),AA.row false (AF p113 1) (1:Nat) (oEs p113 1),AA.row false (AF p113 2) (1:Nat)
 (oEs p113 2),AA.box [AV.t (Tree.sl (1:Nat) (cL p113 3 0)),AV.t (Tree.sl (7:Nat) (cL p113 3 1)),AV.t (Tree.sl (4:Nat) (cL p113 3 2)),AV.t (Tree.sl (5:Nat) (cL p113 3 3)),AV.t (tI (cI p113 3 4)),
 AV.t (tI (cI p113 3 5)),AV.t (tI (cI p113 3 6)),AV.t (tI (cI p113 3 7)),AV.t (tI (cI p113 3 8)),AV.t (tI (cI p113 3 9)),AV.t (Tree.bool (cB p113 3 10)),AV.sref (0:Nat) (AD p113 3 11) (AE
 p113 3 11) (AB p113 3 11),AV.sref (1:Nat) (AD p113 3 12) (AE p113 3 12) (AB p113 3 12),AV.sref (2:Nat) (AD p113 3 13) (AE p113 3 13) (AB p113 3 13)],AA.box [AV.ptr (3:Nat) (0:Nat)],
 AA.row false (AF p113 5) (4:Nat) (oEs p113 5),AA.box [AV.sref (5:Nat) (AD p113 6 0) (AE p113 6 0) (AB p113 6 0)],AA.row false (AF p113 7) (4:Nat) (oEs p113 7),AA.box [AV.sref
 (7:Nat) (AD p113 8 0) (AE p113 8 0) (AB p113 8 0)],AA.box [],AA.box [AV.ptr (3:Nat) (0:Nat)],AA.box [],AA.box [],AA.box [],AA.box [],AA.box []])
noncomputable def J16_21 (n:Nat) (again110:(List AV×Heap)→Option (List Tree)) (p111:List AV×Heap):Option (List Tree):=
 again110 ([AV.t (Tree.bool (!(vB p111 0)))],[AA.row false (AF p111 0) (1:Nat) (oEs p111 0),AA.row false (AF p111 1) (1:Nat) (oEs p111 1),AA.row false (AF p111 2) (1:Nat) (oEs p111 2),
 AA.box [AV.t (Tree.sl (1:Nat) (cL p111 3 0)),AV.t (Tree.sl (7:Nat) (cL p111 3 1)),AV.t (Tree.sl (4:Nat) (cL p111 3 2)),AV.t (Tree.sl (5:Nat) (cL p111 3 3)),AV.t (tI (cI p111 3 4)),AV.t (tI (cI
 p111 3 5)),AV.t (tI (cI p111 3 6)),AV.t (tI (cI p111 3 7)),AV.t (tI (cI p111 3 8)),AV.t (tI (cI p111 3 9)),AV.t (Tree.bool (cB p111 3 10)),AV.sref (0:Nat) (AD p111 3 11) (AE p111 3 11) (AB
 p111 3 11),AV.sref (1:Nat) (AD p111 3 12) (AE p111 3 12) (AB p111 3 12),AV.sref (2:Nat) (AD p111 3 13) (AE p111 3 13) (AB p111 3 13)],AA.box [AV.ptr (3:Nat) (0:Nat)],AA.row false
 (AF p111 5) (4:Nat) (oEs p111 5),AA.box [AV.sref (5:Nat) (AD p111 6 0) (AE p111 6 0) (AB p111 6 0)],AA.row false (AF p111 7) (4:Nat) (oEs p111 7),AA.box [AV.sref (7:Nat) (AD p111
 8 0) (AE p111 8 0) (AB p111 8 0)],AA.box [],AA.box [AV.ptr (3:Nat) (0:Nat)],AA.box [],AA.box [],AA.box [],AA.box [],AA.box []])
noncomputable def J16_22 (n:Nat) (again94:(List AV×Heap)→Option (List Tree)) (p121:List AV×Heap):Option (List Tree):=
 again94 ([],[AA.row false (AF p121 0) (1:Nat) (oEs p121 0),AA.row false (AF p121 1) (1:Nat) (oEs p121 1),AA.row false (AF p121 2) (1:Nat) (oEs p121 2),AA.box [AV.t (Tree.sl (1:Nat)
 (cL p121 3 0)),AV.t (Tree.sl (7:Nat) (cL p121 3 1)),AV.t (Tree.sl (4:Nat) (cL p121 3 2)),AV.t (Tree.sl (5:Nat) (cL p121 3 3)),AV.t (tI (cI p121 3 4)),AV.t (tI (cI p121 3 5)),AV.t (tI (cI p121 3
 6)),AV.t (tI (cI p121 3 7)),AV.t (tI (cI p121 3 8)),AV.t (tI (cI p121 3 9)),AV.t (Tree.bool (cB p121 3 10)),AV.sref (0:Nat) (AD p121 3 11) (AE p121 3 11) (AB p121 3 11),AV.sref (1:Nat)
 (AD p121 3 12) (AE p121 3 12) (AB p121 3 12),AV.sref (2:Nat) (AD p121 3 13) (AE p121 3 13) (AB p121 3 13)],AA.box [AV.ptr (3:Nat) (0:Nat)],AA.row false (AF p121 5) (4:Nat) (oEs
 p121 5),AA.box [AV.sref (5:Nat) (AD p121 6 0) (AE p121 6 0) (AB p121 6 0)],AA.row false (AF p121 7) (4:Nat) (oEs p121 7),AA.box [AV.sref (7:Nat) (AD p121 8 0) (AE p121 8 0) (AB
 p121 8 0)],AA.box [],AA.box [AV.ptr (3:Nat) (0:Nat)],AA.box [],AA.box []])
noncomputable def J16_23 (n:Nat) (again94:(List AV×Heap)→Option (List Tree)) (y57:List Tree) (y95:List Tree) (p96:List AV×Heap) (p109:List AV×Heap):Option (List Tree):=
 join (fun (p121:List AV×Heap)=>J16_22 n again94 p121) fun (again122:_→Option (List Tree))=>cnd (vB p109 0=true) (cnd (AF p109 7=AD p109 8 0∧((4:Nat)=(4:Nat)∨(4:Nat)=
 (0:Nat))∧(AE p109 8 0)+(AB p109 8 0)≤length (oEs p109 7)∧(AB p109 8 0)+(1:Nat)≤(1073741824:Nat)) (again122 ([],[AA.row false (AF p109 0) (1:Nat) (oEs p109 0),AA.row
 false (AF p109 1) (1:Nat) (oEs p109 1),AA.row false (AF p109 2) (1:Nat) (oEs p109 2),AA.box [AV.t (Tree.sl (1:Nat) (cL p109 3 0)),AV.t (Tree.sl (7:Nat) (cL p109 3 1)),AV.t (Tree.sl (4:Nat)
 (cL p109 3 2)),AV.t (Tree.sl (5:Nat) (cL p109 3 3)),AV.t (tI (cI p109 3 4)),AV.t (tI (cI p109 3 5)),AV.t (tI (cI p109 3 6)),AV.t (tI (cI p109 3 7)),AV.t (tI (cI p109 3 8)),AV.t (tI (cI p109 3
 9)),AV.t (Tree.bool (cB p109 3 10)),AV.sref (0:Nat) (AD p109 3 11) (AE p109 3 11) (AB p109 3 11),AV.sref (1:Nat) (AD p109 3 12) (AE p109 3 12) (AB p109 3 12),AV.sref (2:Nat) (AD p109
 3 13) (AE p109 3 13) (AB p109 3 13)],AA.box [AV.ptr (3:Nat) (0:Nat)],AA.row false (AF p109 5) (4:Nat) (oEs p109 5),AA.box [AV.sref (5:Nat) (AD p109 6 0) (AE p109 6 0) (AB p109 6
 0)],AA.row false ((AD p109 8 0)+(1:Nat)) (4:Nat) ((take (AB p109 8 0) (drop (AE p109 8 0) (oEs p109 7)))++[[tI (gI y57 1),tI (gI y95 0),tI (gI y95 1),tI (vI p96 3)]]),
 AA.box [AV.sref (7:Nat) ((AD p109 8 0)+(1:Nat)) (0:Nat) ((AB p109 8 0)+(1:Nat))],AA.box [],AA.box [AV.ptr (3:Nat) (0:Nat)],AA.box [],AA.box [],AA.box [],AA.box [],AA.box
 []])) none) (again122 ([],[AA.row false (AF p109 0) (1:Nat) (oEs p109 0),AA.row false (AF p109 1) (1:Nat) (oEs p109 1),AA.row false (AF p109 2) (1:Nat) (oEs p109 2),AA.box [AV.t
 (Tree.sl (1:Nat) (cL p109 3 0)),AV.t (Tree.sl (7:Nat) (cL p109 3 1)),AV.t (Tree.sl (4:Nat) (cL p109 3 2)),AV.t (Tree.sl (5:Nat) (cL p109 3 3)),AV.t (tI (cI p109 3 4)),AV.t (tI (cI p109 3 5)),
 AV.t (tI (cI p109 3 6)),AV.t (tI (cI p109 3 7)),AV.t (tI (cI p109 3 8)),AV.t (tI (cI p109 3 9)),AV.t (Tree.bool (cB p109 3 10)),AV.sref (0:Nat) (AD p109 3 11) (AE p109 3 11) (AB p109 3 11),
 AV.sref (1:Nat) (AD p109 3 12) (AE p109 3 12) (AB p109 3 12),AV.sref (2:Nat) (AD p109 3 13) (AE p109 3 13) (AB p109 3 13)],AA.box [AV.ptr (3:Nat) (0:Nat)],AA.row false (AF p109 5)
 (4:Nat) (oEs p109 5),AA.box [AV.sref (5:Nat) (AD p109 6 0) (AE p109 6 0) (AB p109 6 0)],AA.row false (AF p109 7) (4:Nat) (oEs p109 7),AA.box [AV.sref (7:Nat) (AD p109 8 0) (AE
 p109 8 0) (AB p109 8 0)],AA.box [],AA.box [AV.ptr (3:Nat) (0:Nat)],AA.box [],AA.box [],AA.box [],AA.box [],AA.box []]))
noncomputable def J16_24 (n:Nat) (again94:(List AV×Heap)→Option (List Tree)) (y57:List Tree) (y95:List Tree) (p96:List AV×Heap) (p104:List AV×Heap):Option (List Tree):=
 cnd (vB p104 0=true) (again94 ([],[AA.row false (AF p104 0) (1:Nat) (oEs p104 0),AA.row false (AF p104 1) (1:Nat) (oEs p104 1),AA.row false (AF p104 2) (1:Nat) (oEs p104 2),AA.box
 [AV.t (Tree.sl (1:Nat) (cL p104 3 0)),AV.t (Tree.sl (7:Nat) (cL p104 3 1)),AV.t (Tree.sl (4:Nat) (cL p104 3 2)),AV.t (Tree.sl (5:Nat) (cL p104 3 3)),AV.t (tI (cI p104 3 4)),AV.t (tI (cI p104 3
 5)),AV.t (tI (cI p104 3 6)),AV.t (tI (cI p104 3 7)),AV.t (tI (cI p104 3 8)),AV.t (tI (cI p104 3 9)),AV.t (Tree.bool (cB p104 3 10)),AV.sref (0:Nat) (AD p104 3 11) (AE p104 3 11) (AB p104 3
 11),AV.sref (1:Nat) (AD p104 3 12) (AE p104 3 12) (AB p104 3 12),AV.sref (2:Nat) (AD p104 3 13) (AE p104 3 13) (AB p104 3 13)],AA.box [AV.ptr (3:Nat) (0:Nat)],AA.row false (AF
 p104 5) (4:Nat) (oEs p104 5),AA.box [AV.sref (5:Nat) (AD p104 6 0) (AE p104 6 0) (AB p104 6 0)],AA.row false (AF p104 7) (4:Nat) (oEs p104 7),AA.box [AV.sref (7:Nat) (AD p104 8 0)
 (AE p104 8 0) (AB p104 8 0)],AA.box [],AA.box [AV.ptr (3:Nat) (0:Nat)],AA.box [],AA.box []])) (join (fun (p109:List AV×Heap)=>J16_23 n again94 y57 y95 p96 p109) fun (again110:_
 →Option (List Tree))=>cnd (((gI y57 1) != (cI p104 3 5))=true) (join (fun (p111:List AV×Heap)=>J16_21 n again110 p111) fun (again112:_→Option (List Tree))=>join (fun (p113:List AV ×
 Heap)=>J16_20 n again112 p113) fun (again114:_→Option (List Tree))=>cnd (AF p104 5=AD p104 6 0) (AO (fun (p115:List AV×Heap) (again116:_→Option (List Tree))=>L16_19 n
 p104 y57 y95 p96 again114 p115 again116) n ([AV.t (tI (0:Int))],[AA.row false (AF p104 0) (1:Nat) (oEs p104 0),AA.row false (AF p104 1) (1:Nat) (oEs p104 1),AA.row false (AF p104 2)
 (1:Nat) (oEs p104 2),AA.box [AV.t (Tree.sl (1:Nat) (cL p104 3 0)),AV.t (Tree.sl (7:Nat) (cL p104 3 1)),AV.t (Tree.sl (4:Nat) (cL p104 3 2)),AV.t (Tree.sl (5:Nat) (cL p104 3 3)),AV.t (tI (cI
 p104 3 4)),AV.t (tI (cI p104 3 5)),AV.t (tI (cI p104 3 6)),AV.t (tI (cI p104 3 7)),AV.t (tI (cI p104 3 8)),AV.t (tI (cI p104 3 9)),AV.t (Tree.bool (cB p104 3 10)),AV.sref (0:Nat) (AD p104 3
 11) (AE p104 3 11) (AB p104 3 11),AV.sref (1:Nat) (AD p104 3 12) (AE p104 3 12) (AB p104 3 12),AV.sref (2:Nat) (AD p104 3 13) (AE p104 3 13) (AB p104 3 13)],AA.box [AV.ptr (3:Nat)
 (0:Nat)],AA.row false (AF p104 5) (4:Nat) (oEs p104 5),AA.box [AV.sref (5:Nat) (AD p104 6 0) (AE p104 6 0) (AB p104 6 0)],AA.row false (AF p104 7) (4:Nat) (oEs p104 7),AA.box
 [AV.sref (7:Nat) (AD p104 8 0) (AE p104 8 0) (AB p104 8 0)],AA.box [],AA.box [AV.ptr (3:Nat) (0:Nat)],AA.box [],AA.box [],AA.box [],AA.box [],AA.box []])) none) (again110
 ([AV.t (Tree.bool false)],[AA.row false (AF p104 0) (1:Nat) (oEs p104 0),AA.row false (AF p104 1) (1:Nat) (oEs p104 1),AA.row false (AF p104 2) (1:Nat) (oEs p104 2),AA.box [AV.t
 (Tree.sl (1:Nat) (cL p104 3 0)),AV.t (Tree.sl (7:Nat) (cL p104 3 1)),AV.t (Tree.sl (4:Nat) (cL p104 3 2)),AV.t (Tree.sl (5:Nat) (cL p104 3 3)),AV.t (tI (cI p104 3 4)),AV.t (tI (cI p104 3 5)),
 AV.t (tI (cI p104 3 6)),AV.t (tI (cI p104 3 7)),AV.t (tI (cI p104 3 8)),AV.t (tI (cI p104 3 9)),AV.t (Tree.bool (cB p104 3 10)),AV.sref (0:Nat) (AD p104 3 11) (AE p104 3 11) (AB p104 3 11),
 AV.sref (1:Nat) (AD p104 3 12) (AE p104 3 12) (AB p104 3 12),AV.sref (2:Nat) (AD p104 3 13) (AE p104 3 13) (AB p104 3 13)],AA.box [AV.ptr (3:Nat) (0:Nat)],AA.row false (AF p104 5)
 (4:Nat) (oEs p104 5),AA.box [AV.sref (5:Nat) (AD p104 6 0) (AE p104 6 0) (AB p104 6 0)],AA.row false (AF p104 7) (4:Nat) (oEs p104 7),AA.box [AV.sref (7:Nat) (AD p104 8 0) (AE
 p104 8 0) (AB p104 8 0)],AA.box [],AA.box [AV.ptr (3:Nat) (0:Nat)],AA.box [],AA.box [],AA.box [],AA.box [],AA.box []])))
noncomputable def J16_25 (n:Nat) (again94:(List AV×Heap)→Option (List Tree)) (y57:List Tree) (y95:List Tree) (p33:List AV×Heap) (p96:List AV×Heap):Option (List Tree):=
 join (fun (p104:List AV×Heap)=>J16_24 n again94 y57 y95 p96 p104) fun (again105:_→Option (List Tree))=>cnd ((!(vB p96 4))=true) (again105 ([AV.t (Tree.bool true)],[AA.row false (AF
 p96 0) (1:Nat) (oEs p96 0),AA.row false (AF p96 1) (1:Nat) (oEs p96 1),AA.row false (AF p96 2) (1:Nat) (oEs p96 2),AA.box [AV.t (Tree.sl (1:Nat) (cL p96 3 0)),AV.t (Tree.sl (7:Nat) (cL
 p96 3 1)),AV.t (Tree.sl (4:Nat) (cL p96 3 2)),AV.t (Tree.sl (5:Nat) (cL p96 3 3)),AV.t (tI (cI p96 3 4)),AV.t (tI (cI p96 3 5)),AV.t (tI (cI p96 3 6)),AV.t (tI (cI p96 3 7)),AV.t (tI (cI p96 3
 8)),AV.t (tI (cI p96 3 9)),AV.t (Tree.bool (cB p96 3 10)),AV.sref (0:Nat) (AD p96 3 11) (AE p96 3 11) (AB p96 3 11),AV.sref (1:Nat) (AD p96 3 12) (AE p96 3 12) (AB p96 3 12),AV.sref
 (2:Nat) (AD p96 3 13) (AE p96 3 13) (AB p96 3 13)],AA.box [AV.ptr (3:Nat) (0:Nat)],AA.row false (AF p96 5) (4:Nat) (oEs p96 5),AA.box [AV.sref (5:Nat) (AD p96 6 0) (AE p96 6 0)
 (AB p96 6 0)],AA.row false (AF p96 7) (4:Nat) (oEs p96 7),AA.box [AV.sref (7:Nat) (AD p96 8 0) (AE p96 8 0) (AB p96 8 0)],AA.box [],AA.box [AV.ptr (3:Nat) (0:Nat)],AA.box [],
 AA.box [],AA.box [],AA.box []])) (join (fun (p106:List AV×Heap)=>J16_18 n p33 again105 p96 y57 y95 p106) fun (again107:_→Option (List Tree))=>cnd (cB p96 3 10=true) (cnd ((7:Nat)
 = (7:Nat)∧(0:Int)≤vI p96 0) (Option.bind (cL p96 3 1)[toNat (vI p96 0)]? fun y108=>cnd (okI y108 5) (again107 ([AV.t (tI (w64 ((vI p96 2)+(w64 ((2:Int)*(gI y108 5))))))],[AA.row false
 (AF p96 0) (1:Nat) (oEs p96 0),AA.row false (AF p96 1) (1:Nat) (oEs p96 1),AA.row false (AF p96 2) (1:Nat) (oEs p96 2),AA.box [AV.t (Tree.sl (1:Nat) (cL p96 3 0)),AV.t (Tree.sl (7:Nat)
 (cL p96 3 1)),AV.t (Tree.sl (4:Nat) (cL p96 3 2)),AV.t (Tree.sl (5:Nat) (cL p96 3 3)),AV.t (tI (cI p96 3 4)),AV.t (tI (cI p96 3 5)),AV.t (tI (cI p96 3 6)),AV.t (tI (cI p96 3 7)),AV.t (tI (cI
 p96 3 8)),AV.t (tI (cI p96 3 9)),AV.t (Tree.bool (cB p96 3 10)),AV.sref (0:Nat) (AD p96 3 11) (AE p96 3 11) (AB p96 3 11),AV.sref (1:Nat) (AD p96 3 12) (AE p96 3 12) (AB p96 3 12),
 AV.sref (2:Nat) (AD p96 3 13) (AE p96 3 13) (AB p96 3 13)],AA.box [AV.ptr (3:Nat) (0:Nat)],AA.row false (AF p96 5) (4:Nat) (oEs p96 5),AA.box [AV.sref (5:Nat) (AD p96 6 0) (AE p96
 6 0) (AB p96 6 0)],AA.row false (AF p96 7) (4:Nat) (oEs p96 7),AA.box [AV.sref (7:Nat) (AD p96 8 0) (AE p96 8 0) (AB p96 8 0)],AA.box [],AA.box [AV.ptr (3:Nat) (0:Nat)],AA.box
 [],AA.box [],AA.box [],AA.box []])) none) none) (again107 ([AV.t (tI (vI p96 2))],[AA.row false (AF p96 0) (1:Nat) (oEs p96 0),AA.row false (AF p96 1) (1:Nat) (oEs p96 1),AA.row
 false (AF p96 2) (1:Nat) (oEs p96 2),AA.box [AV.t (Tree.sl (1:Nat) (cL p96 3 0)),AV.t (Tree.sl (7:Nat) (cL p96 3 1)),AV.t (Tree.sl (4:Nat) (cL p96 3 2)),AV.t (Tree.sl (5:Nat) (cL p96 3 3)),
 AV.t (tI (cI p96 3 4)),AV.t (tI (cI p96 3 5)),AV.t (tI (cI p96 3 6)),AV.t (tI (cI p96 3 7)),AV.t (tI (cI p96 3 8)),AV.t (tI (cI p96 3 9)),AV.t (Tree.bool (cB p96 3 10)),AV.sref (0:Nat) (AD
 p96 3 11) (AE p96 3 11) (AB p96 3 11),AV.sref (1:Nat) (AD p96 3 12) (AE p96 3 12) (AB p96 3 12),AV.sref (2:Nat) (AD p96 3 13) (AE p96 3 13) (AB p96 3 13)],AA.box [AV.ptr (3:Nat)
 (0:Nat)],AA.row false (AF p96 5) (4:Nat) (oEs p96 5),AA.box [AV.sref (5:Nat) (AD p96 6 0) (AE p96 6 0) (AB p96 6 0)],AA.row false (AF p96 7) (4:Nat) (oEs p96 7),AA.box [AV.sref
 (7:Nat) (AD p96 8 0) (AE p96 8 0) (AB p96 8 0)],AA.box [],AA.box [AV.ptr (3:Nat) (0:Nat)],AA.box [],AA.box [],AA.box [],AA.box []])))
noncomputable def J16_26 (n:Nat) (again92:(List AV×Heap)→Option (List Tree)) (p91:List AV×Heap) (p93:List AV×Heap):Option (List Tree):=
 again92 ([AV.t (tI (w64 ((vI p91 0)+(1:Int))))],[AA.row false (AF p93 0) (1:Nat) (oEs p93 0),AA.row false (AF p93 1) (1:Nat) (oEs p93 1),AA.row false (AF p93 2) (1:Nat) (oEs p93 2),
 AA.box [AV.t (Tree.sl (1:Nat) (cL p93 3 0)),AV.t (Tree.sl (7:Nat) (cL p93 3 1)),AV.t (Tree.sl (4:Nat) (cL p93 3 2)),AV.t (Tree.sl (5:Nat) (cL p93 3 3)),AV.t (tI (cI p93 3 4)),AV.t (tI (cI p93 3
 5)),AV.t (tI (cI p93 3 6)),AV.t (tI (cI p93 3 7)),AV.t (tI (cI p93 3 8)),AV.t (tI (cI p93 3 9)),AV.t (Tree.bool (cB p93 3 10)),AV.sref (0:Nat) (AD p93 3 11) (AE p93 3 11) (AB p93 3 11),
 AV.sref (1:Nat) (AD p93 3 12) (AE p93 3 12) (AB p93 3 12),AV.sref (2:Nat) (AD p93 3 13) (AE p93 3 13) (AB p93 3 13)],AA.box [AV.ptr (3:Nat) (0:Nat)],AA.row false (AF p93 5)
 (4:Nat) (oEs p93 5),AA.box [AV.sref (5:Nat) (AD p93 6 0) (AE p93 6 0) (AB p93 6 0)],AA.row false (AF p93 7) (4:Nat) (oEs p93 7),AA.box [AV.sref (7:Nat) (AD p93 8 0) (AE p93 8 0)
 (AB p93 8 0)],AA.box [],AA.box [AV.ptr (3:Nat) (0:Nat)],AA.box [],AA.box []])
noncomputable def L16_27 (n:Nat) (y90:List Tree) (y57:List Tree) (p33:List AV×Heap) (p53:List AV×Heap) (again56:(List AV×Heap)→Option (List Tree)) (p91:List AV×Heap) (again92:(List AV×Heap)→Option (List Tree)):Option (List Tree):=
 cnd (decide (vI p91 0<((length (gL y90 0):Nat):Int))=true) (join (fun (p93:List AV×Heap)=>J16_26 n again92 p91 p93) fun (again94:_→Option (List Tree))=>cnd ((2:Nat)=(2:Nat)∧
 (0:Int)≤vI p91 0) (Option.bind (gL y90 0)[toNat (vI p91 0)]? fun y95=>cnd (okI y95 0) (cnd (okI y95 1) (join (fun (p96:List AV×Heap)=>J16_25 n again94 y57 y95 p33 p96) fun (again97:_→
 Option (List Tree))=>cnd (AF p91 2=AD p91 3 13∧(1:Nat)=(1:Nat)∧(0:Int)≤vI p53 0∧vI p53 0<((AB p91 3 13:Nat):Int)) (cnd (AF p91 2=AD p91 3 13) (Option.bind (oEs p91 2)[(AE
 p91 3 13)+(toNat (vI p53 0))]? fun y98=>cnd (okI y98 0) (cnd (AF p91 0=AD p91 3 11∧(1:Nat)=(1:Nat)∧(0:Int)≤vI p53 0∧vI p53 0<((AB p91 3 11:Nat):Int)) (cnd (AF p91 0 =
 AD p91 3 11) (Option.bind (oEs p91 0)[(AE p91 3 11)+(toNat (vI p53 0))]? fun y99=>cnd (okL 2 y99 0) (AO (fun (p100:List AV×Heap) (again101:_→Option (List Tree))=>L16_17 n
 y99 y95 p33 y98 p53 again97 p100 again101) n ([AV.t (tI (0:Int))],[AA.row false (AF p91 0) (1:Nat) (oEs p91 0),AA.row false (AF p91 1) (1:Nat) (oEs p91 1),AA.row false (AF p91 2)
 (1:Nat) (oEs p91 2),AA.box [AV.t (Tree.sl (1:Nat) (cL p91 3 0)),AV.t (Tree.sl (7:Nat) (cL p91 3 1)),AV.t (Tree.sl (4:Nat) (cL p91 3 2)),AV.t (Tree.sl (5:Nat) (cL p91 3 3)),AV.t (tI (cI p91 3
 4)),AV.t (tI (cI p91 3 5)),AV.t (tI (cI p91 3 6)),AV.t (tI (cI p91 3 7)),AV.t (tI (cI p91 3 8)),AV.t (tI (cI p91 3 9)),AV.t (Tree.bool (cB p91 3 10)),AV.sref (0:Nat) (AD p91 3 11) (AE p91 3
 11) (AB p91 3 11),AV.sref (1:Nat) (AD p91 3 12) (AE p91 3 12) (AB p91 3 12),AV.sref (2:Nat) (AD p91 3 13) (AE p91 3 13) (AB p91 3 13)],AA.box [AV.ptr (3:Nat) (0:Nat)],AA.row
 false (AF p91 5) (4:Nat) (oEs p91 5),AA.box [AV.sref (5:Nat) (AD p91 6 0) (AE p91 6 0) (AB p91 6 0)],AA.row false (AF p91 7) (4:Nat) (oEs p91 7),AA.box [AV.sref (7:Nat) (AD p91 8
 0) (AE p91 8 0) (AB p91 8 0)],AA.box [],AA.box [AV.ptr (3:Nat) (0:Nat)],AA.box [],AA.box [],AA.box [],AA.box [AV.t (tI (0:Int)),AV.t (tI (0:Int)),AV.t (tI (0:Int)),AV.t (tI
 (0:Int))]])) none) none) none) none) none) none) none) none) none) (again56 ([],[AA.row false (AF p91 0) (1:Nat) (oEs p91 0),AA.row false (AF p91 1) (1:Nat) (oEs p91 1),AA.row false (AF
 p91 2) (1:Nat) (oEs p91 2),AA.box [AV.t (Tree.sl (1:Nat) (cL p91 3 0)),AV.t (Tree.sl (7:Nat) (cL p91 3 1)),AV.t (Tree.sl (4:Nat) (cL p91 3 2)),AV.t (Tree.sl (5:Nat) (cL p91 3 3)),AV.t (tI (cI
 p91 3 4)),AV.t (tI (cI p91 3 5)),AV.t (tI (cI p91 3 6)),AV.t (tI (cI p91 3 7)),AV.t (tI (cI p91 3 8)),AV.t (tI (cI p91 3 9)),AV.t (Tree.bool (cB p91 3 10)),AV.sref (0:Nat) (AD p91 3 11) (AE
 p91 3 11) (AB p91 3 11),AV.sref (1:Nat) (AD p91 3 12) (AE p91 3 12) (AB p91 3 12),AV.sref (2:Nat) (AD p91 3 13) (AE p91 3 13) (AB p91 3 13)],AA.box [AV.ptr (3:Nat) (0:Nat)],
 AA.row false (AF p91 5) (4:Nat) (oEs p91 5),AA.box [AV.sref (5:Nat) (AD p91 6 0) (AE p91 6 0) (AB p91 6 0)],AA.row false (AF p91 7) (4:Nat) (oEs p91 7),AA.box [AV.sref (7:Nat)
 (AD p91 8 0) (AE p91 8 0) (AB p91 8 0)],AA.box [],AA.box [AV.ptr (3:Nat) (0:Nat)],AA.box []]))
noncomputable def J16_28 (n:Nat) (again54:(List AV×Heap)→Option (List Tree)) (p53:List AV×Heap) (p55:List AV×Heap):Option (List Tree):=
 again54 ([AV.t (tI (w64 ((vI p53 0)+(1:Int))))],[AA.row false (AF p55 0) (1:Nat) (oEs p55 0),AA.row false (AF p55 1) (1:Nat) (oEs p55 1),AA.row false (AF p55 2) (1:Nat) (oEs p55 2),
 AA.box [AV.t (Tree.sl (1:Nat) (cL p55 3 0)),AV.t (Tree.sl (7:Nat) (cL p55 3 1)),AV.t (Tree.sl (4:Nat) (cL p55 3 2)),AV.t (Tree.sl (5:Nat) (cL p55 3 3)),AV.t (tI (cI p55 3 4)),AV.t (tI (cI p55 3
 5)),AV.t (tI (cI p55 3 6)),AV.t (tI (cI p55 3 7)),AV.t (tI (cI p55 3 8)),AV.t (tI (cI p55 3 9)),AV.t (Tree.bool (cB p55 3 10)),AV.sref (0:Nat) (AD p55 3 11) (AE p55 3 11) (AB p55 3 11),
 AV.sref (1:Nat) (AD p55 3 12) (AE p55 3 12) (AB p55 3 12),AV.sref (2:Nat) (AD p55 3 13) (AE p55 3 13) (AB p55 3 13)],AA.box [AV.ptr (3:Nat) (0:Nat)],AA.row false (AF p55 5)
 (4:Nat) (oEs p55 5),AA.box [AV.sref (5:Nat) (AD p55 6 0) (AE p55 6 0) (AB p55 6 0)],AA.row false (AF p55 7) (4:Nat) (oEs p55 7),AA.box [AV.sref (7:Nat) (AD p55 8 0) (AE p55 8 0)
 (AB p55 8 0)],AA.box [],AA.box [AV.ptr (3:Nat) (0:Nat)],AA.box []])
noncomputable def L16_29 (n:Nat) (p45:List AV×Heap) (p33:List AV×Heap) (again32:(List AV×Heap)→Option (List Tree)) (p53:List AV×Heap) (again54:(List AV×Heap)→Option (List Tree)):Option (List Tree):=
 cnd (decide (vI p53 0<((length (cL p45 3 1):Nat):Int))=true) (join (fun (p55:List AV×Heap)=>J16_28 n again54 p53 p55) fun (again56:_→Option (List Tree))=>cnd ((7:Nat)=(7:Nat)∧
 (0:Int)≤vI p53 0) (Option.bind (cL p45 3 1)[toNat (vI p53 0)]? fun y57=>cnd (okI y57 0) (cnd (okI y57 1) (cnd (okI y57 2) (cnd (okI y57 3) (cnd (okI y57 4) (cnd (okI y57 5) (cnd (okI y57 6)
 (cnd (((gI y57 0) != (vI p33 0))=true) (again56 ([],[AA.row false (AF p53 0) (1:Nat) (oEs p53 0),AA.row false (AF p53 1) (1:Nat) (oEs p53 1),AA.row false (AF p53 2) (1:Nat) (oEs p53
 2),AA.box [AV.t (Tree.sl (1:Nat) (cL p53 3 0)),AV.t (Tree.sl (7:Nat) (cL p53 3 1)),AV.t (Tree.sl (4:Nat) (cL p53 3 2)),AV.t (Tree.sl (5:Nat) (cL p53 3 3)),AV.t (tI (cI p53 3 4)),AV.t (tI (cI
 p53 3 5)),AV.t (tI (cI p53 3 6)),AV.t (tI (cI p53 3 7)),AV.t (tI (cI p53 3 8)),AV.t (tI (cI p53 3 9)),AV.t (Tree.bool (cB p53 3 10)),AV.sref (0:Nat) (AD p53 3 11) (AE p53 3 11) (AB p53 3
 11),AV.sref (1:Nat) (AD p53 3 12) (AE p53 3 12) (AB p53 3 12),AV.sref (2:Nat) (AD p53 3 13) (AE p53 3 13) (AB p53 3 13)],AA.box [AV.ptr (3:Nat) (0:Nat)],AA.row false (AF p53 5)
 (4:Nat) (oEs p53 5),AA.box [AV.sref (5:Nat) (AD p53 6 0) (AE p53 6 0) (AB p53 6 0)],AA.row false (AF p53 7) (4:Nat) (oEs p53 7),AA.box [AV.sref (7:Nat) (AD p53 8 0) (AE p53 8 0)
 (AB p53 8 0)],AA.box [],AA.box [AV.ptr (3:Nat) (0:Nat)],AA.box []])) (cnd (((gI y57 1)==(cI p53 3 5))=true) (AO (fun (p58:List AV×Heap) (again59:_→Option (List Tree))=>
 L16_16 n y57 p33 p53 again56 p58 again59) n ([AV.t (tI (0:Int))],[AA.row false (AF p53 0) (1:Nat) (oEs p53 0),AA.row false (AF p53 1) (1:Nat) (oEs p53 1),AA.row false (AF p53 2) (1:Nat)
 (oEs p53 2),AA.box [AV.t (Tree.sl (1:Nat) (cL p53 3 0)),AV.t (Tree.sl (7:Nat) (cL p53 3 1)),AV.t (Tree.sl (4:Nat) (cL p53 3 2)),AV.t (Tree.sl (5:Nat) (cL p53 3 3)),AV.t (tI (cI p53 3 4)),AV.t
 (tI (cI p53 3 5)),AV.t (tI (cI p53 3 6)),AV.t (tI (cI p53 3 7)),AV.t (tI (cI p53 3 8)),AV.t (tI (cI p53 3 9)),AV.t (Tree.bool (cB p53 3 10)),AV.sref (0:Nat) (AD p53 3 11) (AE p53 3 11) (AB
 p53 3 11),AV.sref (1:Nat) (AD p53 3 12) (AE p53 3 12) (AB p53 3 12),AV.sref (2:Nat) (AD p53 3 13) (AE p53 3 13) (AB p53 3 13)],AA.box [AV.ptr (3:Nat) (0:Nat)],AA.row false (AF
 p53 5) (4:Nat) (oEs p53 5),AA.box [AV.sref (5:Nat) (AD p53 6 0) (AE p53 6 0) (AB p53 6 0)],AA.row false (AF p53 7) (4:Nat) (oEs p53 7),AA.box [AV.sref (7:Nat) (AD p53 8 0) (AE p53
 8 0) (AB p53 8 0)],AA.box [],AA.box [AV.ptr (3:Nat) (0:Nat)],AA.box [],AA.box []])) (cnd (AF p53 1=AD p53 3 12∧(1:Nat)=(1:Nat)∧(0:Int)≤gI y57 1∧gI y57 1<((AB p53 3
 12:Nat):Int)) (cnd (AF p53 1=AD p53 3 12) (Option.bind (oEs p53 1)[(AE p53 3 12)+(toNat (gI y57 1))]? fun y90=>cnd (okL 2 y90 0) (AO (fun (p91:List AV×Heap) (again92:_→
 Option (List Tree))=>L16_27 n y90 y57 p33 p53 again56 p91 again92) n ([AV.t (tI (0:Int))],[AA.row false (AF p53 0) (1:Nat) (oEs p53 0),AA.row false (AF p53 1) (1:Nat) (oEs p53 1),AA.row
 false (AF p53 2) (1:Nat) (oEs p53 2),AA.box [AV.t (Tree.sl (1:Nat) (cL p53 3 0)),AV.t (Tree.sl (7:Nat) (cL p53 3 1)),AV.t (Tree.sl (4:Nat) (cL p53 3 2)),AV.t (Tree.sl (5:Nat) (cL p53 3 3)),
 AV.t (tI (cI p53 3 4)),AV.t (tI (cI p53 3 5)),AV.t (tI (cI p53 3 6)),AV.t (tI (cI p53 3 7)),AV.t (tI (cI p53 3 8)),AV.t (tI (cI p53 3 9)),AV.t (Tree.bool (cB p53 3 10)),AV.sref (0:Nat) (AD
 p53 3 11) (AE p53 3 11) (AB p53 3 11),AV.sref (1:Nat) (AD p53 3 12) (AE p53 3 12) (AB p53 3 12),AV.sref (2:Nat) (AD p53 3 13) (AE p53 3 13) (AB p53 3 13)],AA.box [AV.ptr (3:Nat)
 (0:Nat)],AA.row false (AF p53 5) (4:Nat) (oEs p53 5),AA.box [AV.sref (5:Nat) (AD p53 6 0) (AE p53 6 0) (AB p53 6 0)],AA.row false (AF p53 7) (4:Nat) (oEs p53 7),AA.box [AV.sref
 (7:Nat) (AD p53 8 0) (AE p53 8 0) (AB p53 8 0)],AA.box [],AA.box [AV.ptr (3:Nat) (0:Nat)],AA.box [],AA.box []])) none) none) none))) none) none) none) none) none) none) none) none)
 (again32 ([],[AA.row false (AF p53 0) (1:Nat) (oEs p53 0),AA.row false (AF p53 1) (1:Nat) (oEs p53 1),AA.row false (AF p53 2) (1:Nat) (oEs p53 2),AA.box [AV.t (Tree.sl (1:Nat) (cL
 p53 3 0)),AV.t (Tree.sl (7:Nat) (cL p53 3 1)),AV.t (Tree.sl (4:Nat) (cL p53 3 2)),AV.t (Tree.sl (5:Nat) (cL p53 3 3)),AV.t (tI (cI p53 3 4)),AV.t (tI (cI p53 3 5)),AV.t (tI (cI p53 3 6)),AV.t
 (tI (cI p53 3 7)),AV.t (tI (cI p53 3 8)),AV.t (tI (cI p53 3 9)),AV.t (Tree.bool (cB p53 3 10)),AV.sref (0:Nat) (AD p53 3 11) (AE p53 3 11) (AB p53 3 11),AV.sref (1:Nat) (AD p53 3 12)
 (AE p53 3 12) (AB p53 3 12),AV.sref (2:Nat) (AD p53 3 13) (AE p53 3 13) (AB p53 3 13)],AA.box [AV.ptr (3:Nat) (0:Nat)],AA.row false (AF p53 5) (4:Nat) (oEs p53 5),AA.box [AV.sref
 (5:Nat) (AD p53 6 0) (AE p53 6 0) (AB p53 6 0)],AA.row false (AF p53 7) (4:Nat) (oEs p53 7),AA.box [AV.sref (7:Nat) (AD p53 8 0) (AE p53 8 0) (AB p53 8 0)]]))
noncomputable def Um (n:Nat) (again124:(List AV×Heap)→Option (List Tree)) (p123:List AV×Heap) (p129:List AV×Heap):Option (List Tree):=
 again124 ([AV.t (tI (vI p129 0)),AV.t (tI (w64 ((vI p123 1)+(1:Int))))],[AA.row false (AF p129 0) (1:Nat) (oEs p129 0),AA.row false (AF p129 1) (1:Nat) (oEs p129 1),AA.row false (AF
 p129 2) (1:Nat) (oEs p129 2),AA.box [AV.t (Tree.sl (1:Nat) (cL p129 3 0)),AV.t (Tree.sl (7:Nat) (cL p129 3 1)),AV.t (Tree.sl (4:Nat) (cL p129 3 2)),AV.t (Tree.sl (5:Nat) (cL p129 3 3)),AV.t (tI
 (cI p129 3 4)),AV.t (tI (cI p129 3 5)),AV.t (tI (cI p129 3 6)),AV.t (tI (cI p129 3 7)),AV.t (tI (cI p129 3 8)),AV.t (tI (cI p129 3 9)),AV.t (Tree.bool (cB p129 3 10)),AV.sref (0:Nat) (AD p129
 3 11) (AE p129 3 11) (AB p129 3 11),AV.sref (1:Nat) (AD p129 3 12) (AE p129 3 12) (AB p129 3 12),AV.sref (2:Nat) (AD p129 3 13) (AE p129 3 13) (AB p129 3 13)],AA.box [AV.ptr
 (3:Nat) (0:Nat)],AA.row false (AF p129 5) (4:Nat) (oEs p129 5),AA.box [AV.sref (5:Nat) (AD p129 6 0) (AE p129 6 0) (AB p129 6 0)],AA.row false (AF p129 7) (4:Nat) (oEs p129 7),
 AA.box [AV.sref (7:Nat) (AD p129 8 0) (AE p129 8 0) (AB p129 8 0)],AA.box []])
noncomputable def L16_31 (n:Nat) (y145:List Tree) (y141:List Tree) (p33:List AV×Heap) (y144:List Tree) (p132:List AV×Heap) (again143:(List AV×Heap)→Option (List Tree)) (p146:List AV×Heap) (again147:(List AV×Heap)→Option (List Tree)):Option (List Tree):=
 cnd (decide (vI p146 0<((length (gL y145 0):Nat):Int))=true) (cnd ((2:Nat)=(2:Nat)∧(0:Int)≤vI p146 0) (Option.bind (gL y145 0)[toNat (vI p146 0)]? fun y148=>cnd (okI y148 0) (cnd
 (okI y148 1) (cnd (decide (w64 ((if (if gI y141 0>vI p33 3 then gI y141 0 else vI p33 3)>gI y148 0 then (if gI y141 0>vI p33 3 then gI y141 0 else vI p33 3) else gI y148 0)+(gI y144 0))≤gI
 y148 1)=true) (cnd ((7:Nat)=(7:Nat)∧(0:Int)≤vI p132 0) (Option.bind (cL p146 3 1)[toNat (vI p132 0)]? fun y149=>cnd (okI y149 5) (again143 ([AV.t (tI (vI p132 0)),AV.t (tI (if (if gI
 y141 0>vI p33 3 then gI y141 0 else vI p33 3)>gI y148 0 then (if gI y141 0>vI p33 3 then gI y141 0 else vI p33 3) else gI y148 0)),AV.t (tI (w64 ((if (if gI y141 0>vI p33 3 then gI y141 0
 else vI p33 3)>gI y148 0 then (if gI y141 0>vI p33 3 then gI y141 0 else vI p33 3) else gI y148 0)+(gI y144 0)))),AV.t (tI (w64 ((w64 ((if (if gI y141 0>vI p33 3 then gI y141 0 else vI p33 3)
 > gI y148 0 then (if gI y141 0>vI p33 3 then gI y141 0 else vI p33 3) else gI y148 0)+(gI y144 0)))+(gI y149 5)))),AV.t (Tree.bool true)],[AA.row false (AF p146 0) (1:Nat) (oEs p146 0),
 AA.row false (AF p146 1) (1:Nat) (oEs p146 1),AA.row false (AF p146 2) (1:Nat) (oEs p146 2),AA.box [AV.t (Tree.sl (1:Nat) (cL p146 3 0)),AV.t (Tree.sl (7:Nat) (cL p146 3 1)),AV.t
 (Tree.sl (4:Nat) (cL p146 3 2)),AV.t (Tree.sl (5:Nat) (cL p146 3 3)),AV.t (tI (cI p146 3 4)),AV.t (tI (cI p146 3 5)),AV.t (tI (cI p146 3 6)),AV.t (tI (cI p146 3 7)),AV.t (tI (cI p146 3 8)),AV.t
 (tI (cI p146 3 9)),AV.t (Tree.bool (cB p146 3 10)),AV.sref (0:Nat) (AD p146 3 11) (AE p146 3 11) (AB p146 3 11),AV.sref (1:Nat) (AD p146 3 12) (AE p146 3 12) (AB p146 3 12),AV.sref
 (2:Nat) (AD p146 3 13) (AE p146 3 13) (AB p146 3 13)],AA.box [AV.ptr (3:Nat) (0:Nat)],AA.row false (AF p146 5) (4:Nat) (oEs p146 5),AA.box [AV.sref (5:Nat) (AD p146 6 0) (AE p146
 6 0) (AB p146 6 0)],AA.row false (AF p146 7) (4:Nat) (oEs p146 7),AA.box [AV.sref (7:Nat) (AD p146 8 0) (AE p146 8 0) (AB p146 8 0)],AA.box [],AA.box [AV.ptr (3:Nat) (0:Nat)],
 AA.box [],AA.box [],AA.box []])) none) none) (again147 ([AV.t (tI (w64 ((vI p146 0)+(1:Int))))],[AA.row false (AF p146 0) (1:Nat) (oEs p146 0),AA.row false (AF p146 1) (1:Nat) (oEs
 p146 1),AA.row false (AF p146 2) (1:Nat) (oEs p146 2),AA.box [AV.t (Tree.sl (1:Nat) (cL p146 3 0)),AV.t (Tree.sl (7:Nat) (cL p146 3 1)),AV.t (Tree.sl (4:Nat) (cL p146 3 2)),AV.t (Tree.sl
 (5:Nat) (cL p146 3 3)),AV.t (tI (cI p146 3 4)),AV.t (tI (cI p146 3 5)),AV.t (tI (cI p146 3 6)),AV.t (tI (cI p146 3 7)),AV.t (tI (cI p146 3 8)),AV.t (tI (cI p146 3 9)),AV.t (Tree.bool (cB p146 3
 10)),AV.sref (0:Nat) (AD p146 3 11) (AE p146 3 11) (AB p146 3 11),AV.sref (1:Nat) (AD p146 3 12) (AE p146 3 12) (AB p146 3 12),AV.sref (2:Nat) (AD p146 3 13) (AE p146 3 13) (AB
 p146 3 13)],AA.box [AV.ptr (3:Nat) (0:Nat)],AA.row false (AF p146 5) (4:Nat) (oEs p146 5),AA.box [AV.sref (5:Nat) (AD p146 6 0) (AE p146 6 0) (AB p146 6 0)],AA.row false (AF p146
 7) (4:Nat) (oEs p146 7),AA.box [AV.sref (7:Nat) (AD p146 8 0) (AE p146 8 0) (AB p146 8 0)],AA.box [],AA.box [AV.ptr (3:Nat) (0:Nat)],AA.box [],AA.box [],AA.box [],AA.box
 [AV.t (tI (cI p146 14 0)),AV.t (tI (cI p146 14 1)),AV.t (tI (cI p146 14 2)),AV.t (tI (cI p146 14 3))]]))) none) none) none) (again143 ([AV.t (tI (0:Int)),AV.t (tI (0:Int)),AV.t (tI (0:Int)),AV.t
 (tI (0:Int)),AV.t (Tree.bool false)],[AA.row false (AF p146 0) (1:Nat) (oEs p146 0),AA.row false (AF p146 1) (1:Nat) (oEs p146 1),AA.row false (AF p146 2) (1:Nat) (oEs p146 2),
 AA.box [AV.t (Tree.sl (1:Nat) (cL p146 3 0)),AV.t (Tree.sl (7:Nat) (cL p146 3 1)),AV.t (Tree.sl (4:Nat) (cL p146 3 2)),AV.t (Tree.sl (5:Nat) (cL p146 3 3)),AV.t (tI (cI p146 3 4)),AV.t (tI (cI
 p146 3 5)),AV.t (tI (cI p146 3 6)),AV.t (tI (cI p146 3 7)),AV.t (tI (cI p146 3 8)),AV.t (tI (cI p146 3 9)),AV.t (Tree.bool (cB p146 3 10)),AV.sref (0:Nat) (AD p146 3 11) (AE p146 3 11) (AB
 p146 3 11),AV.sref (1:Nat) (AD p146 3 12) (AE p146 3 12) (AB p146 3 12),AV.sref (2:Nat) (AD p146 3 13) (AE p146 3 13) (AB p146 3 13)],AA.box [AV.ptr (3:Nat) (0:Nat)],AA.row false
 (AF p146 5) (4:Nat) (oEs p146 5),AA.box [AV.sref (5:Nat) (AD p146 6 0) (AE p146 6 0) (AB p146 6 0)],AA.row false (AF p146 7) (4:Nat) (oEs p146 7),AA.box [AV.sref (7:Nat) (AD p146
 8 0) (AE p146 8 0) (AB p146 8 0)],AA.box [],AA.box [AV.ptr (3:Nat) (0:Nat)],AA.box [],AA.box [],AA.box []]))
noncomputable def J16_32 (n:Nat) (p33:List AV×Heap) (again151:(List AV×Heap)→Option (List Tree)) (p142:List AV×Heap) (y136:List Tree) (y141:List Tree) (p152:List AV×Heap):Option (List Tree):=
 cnd (decide (vI p152 0>vI p33 2)=true) (again151 ([AV.t (Tree.bool true)],[AA.row false (AF p152 0) (1:Nat) (oEs p152 0),AA.row false (AF p152 1) (1:Nat) (oEs p152 1),AA.row false
 (AF p152 2) (1:Nat) (oEs p152 2),AA.box [AV.t (Tree.sl (1:Nat) (cL p152 3 0)),AV.t (Tree.sl (7:Nat) (cL p152 3 1)),AV.t (Tree.sl (4:Nat) (cL p152 3 2)),AV.t (Tree.sl (5:Nat) (cL p152 3 3)),
 AV.t (tI (cI p152 3 4)),AV.t (tI (cI p152 3 5)),AV.t (tI (cI p152 3 6)),AV.t (tI (cI p152 3 7)),AV.t (tI (cI p152 3 8)),AV.t (tI (cI p152 3 9)),AV.t (Tree.bool (cB p152 3 10)),AV.sref (0:Nat)
 (AD p152 3 11) (AE p152 3 11) (AB p152 3 11),AV.sref (1:Nat) (AD p152 3 12) (AE p152 3 12) (AB p152 3 12),AV.sref (2:Nat) (AD p152 3 13) (AE p152 3 13) (AB p152 3 13)],AA.box
 [AV.ptr (3:Nat) (0:Nat)],AA.row false (AF p152 5) (4:Nat) (oEs p152 5),AA.box [AV.sref (5:Nat) (AD p152 6 0) (AE p152 6 0) (AB p152 6 0)],AA.row false (AF p152 7) (4:Nat) (oEs p152
 7),AA.box [AV.sref (7:Nat) (AD p152 8 0) (AE p152 8 0) (AB p152 8 0)],AA.box [],AA.box [AV.ptr (3:Nat) (0:Nat)],AA.box [],AA.box [],AA.box [],AA.box []])) (cnd (decide (vI
 p142 3>cI p152 3 8)=true) (again151 ([AV.t (Tree.bool true)],[AA.row false (AF p152 0) (1:Nat) (oEs p152 0),AA.row false (AF p152 1) (1:Nat) (oEs p152 1),AA.row false (AF p152 2)
 (1:Nat) (oEs p152 2),AA.box [AV.t (Tree.sl (1:Nat) (cL p152 3 0)),AV.t (Tree.sl (7:Nat) (cL p152 3 1)),AV.t (Tree.sl (4:Nat) (cL p152 3 2)),AV.t (Tree.sl (5:Nat) (cL p152 3 3)),AV.t (tI (cI
 p152 3 4)),AV.t (tI (cI p152 3 5)),AV.t (tI (cI p152 3 6)),AV.t (tI (cI p152 3 7)),AV.t (tI (cI p152 3 8)),AV.t (tI (cI p152 3 9)),AV.t (Tree.bool (cB p152 3 10)),AV.sref (0:Nat) (AD p152 3
 11) (AE p152 3 11) (AB p152 3 11),AV.sref (1:Nat) (AD p152 3 12) (AE p152 3 12) (AB p152 3 12),AV.sref (2:Nat) (AD p152 3 13) (AE p152 3 13) (AB p152 3 13)],AA.box [AV.ptr (3:Nat)
 (0:Nat)],AA.row false (AF p152 5) (4:Nat) (oEs p152 5),AA.box [AV.sref (5:Nat) (AD p152 6 0) (AE p152 6 0) (AB p152 6 0)],AA.row false (AF p152 7) (4:Nat) (oEs p152 7),AA.box
 [AV.sref (7:Nat) (AD p152 8 0) (AE p152 8 0) (AB p152 8 0)],AA.box [],AA.box [AV.ptr (3:Nat) (0:Nat)],AA.box [],AA.box [],AA.box [],AA.box []])) (cnd (((gI y136 1) != (cI p152
 3 5))=true) (again151 ([AV.t (Tree.bool (decide (vI p142 3≥gI y141 1)))],[AA.row false (AF p152 0) (1:Nat) (oEs p152 0),AA.row false (AF p152 1) (1:Nat) (oEs p152 1),AA.row false
 (AF p152 2) (1:Nat) (oEs p152 2),AA.box [AV.t (Tree.sl (1:Nat) (cL p152 3 0)),AV.t (Tree.sl (7:Nat) (cL p152 3 1)),AV.t (Tree.sl (4:Nat) (cL p152 3 2)),AV.t (Tree.sl (5:Nat) (cL p152 3 3)),
 AV.t (tI (cI p152 3 4)),AV.t (tI (cI p152 3 5)),AV.t (tI (cI p152 3 6)),AV.t (tI (cI p152 3 7)),AV.t (tI (cI p152 3 8)),AV.t (tI (cI p152 3 9)),AV.t (Tree.bool (cB p152 3 10)),AV.sref (0:Nat)
 (AD p152 3 11) (AE p152 3 11) (AB p152 3 11),AV.sref (1:Nat) (AD p152 3 12) (AE p152 3 12) (AB p152 3 12),AV.sref (2:Nat) (AD p152 3 13) (AE p152 3 13) (AB p152 3 13)],AA.box
 [AV.ptr (3:Nat) (0:Nat)],AA.row false (AF p152 5) (4:Nat) (oEs p152 5),AA.box [AV.sref (5:Nat) (AD p152 6 0) (AE p152 6 0) (AB p152 6 0)],AA.row false (AF p152 7) (4:Nat) (oEs p152
 7),AA.box [AV.sref (7:Nat) (AD p152 8 0) (AE p152 8 0) (AB p152 8 0)],AA.box [],AA.box [AV.ptr (3:Nat) (0:Nat)],AA.box [],AA.box [],AA.box [],AA.box []])) (again151 ([AV.t
 (Tree.bool false)],[AA.row false (AF p152 0) (1:Nat) (oEs p152 0),AA.row false (AF p152 1) (1:Nat) (oEs p152 1),AA.row false (AF p152 2) (1:Nat) (oEs p152 2),AA.box [AV.t (Tree.sl
 (1:Nat) (cL p152 3 0)),AV.t (Tree.sl (7:Nat) (cL p152 3 1)),AV.t (Tree.sl (4:Nat) (cL p152 3 2)),AV.t (Tree.sl (5:Nat) (cL p152 3 3)),AV.t (tI (cI p152 3 4)),AV.t (tI (cI p152 3 5)),AV.t (tI (cI
 p152 3 6)),AV.t (tI (cI p152 3 7)),AV.t (tI (cI p152 3 8)),AV.t (tI (cI p152 3 9)),AV.t (Tree.bool (cB p152 3 10)),AV.sref (0:Nat) (AD p152 3 11) (AE p152 3 11) (AB p152 3 11),AV.sref
 (1:Nat) (AD p152 3 12) (AE p152 3 12) (AB p152 3 12),AV.sref (2:Nat) (AD p152 3 13) (AE p152 3 13) (AB p152 3 13)],AA.box [AV.ptr (3:Nat) (0:Nat)],AA.row false (AF p152 5) (4:Nat)
 (oEs p152 5),AA.box [AV.sref (5:Nat) (AD p152 6 0) (AE p152 6 0) (AB p152 6 0)],AA.row false (AF p152 7) (4:Nat) (oEs p152 7),AA.box [AV.sref (7:Nat) (AD p152 8 0) (AE p152 8 0)
 (AB p152 8 0)],AA.box [],AA.box [AV.ptr (3:Nat) (0:Nat)],AA.box [],AA.box [],AA.box [],AA.box []]))))
noncomputable def L16_33 (n:Nat) (p150:List AV×Heap) (y136:List Tree) (y141:List Tree) (p142:List AV×Heap) (again160:(List AV×Heap)→Option (List Tree)) (p161:List AV×Heap) (again162:(List AV×Heap)→Option (List Tree)):Option (List Tree):=
 cnd (decide (vI p161 0<((AB p150 6 0:Nat):Int))=true) (cnd (AF p161 5=AD p150 6 0∧(4:Nat)=(4:Nat)∧(0:Int)≤vI p161 0∧vI p161 0<((AB p150 6 0:Nat):Int)) (cnd (AF p161 5 =
 AD p150 6 0) (Option.bind (oEs p161 5)[(AE p150 6 0)+(toNat (vI p161 0))]? fun y163=>cnd (okI y163 0) (cnd (okI y163 1) (cnd (okI y163 2) (cnd (okI y163 3) (Option.bind (AM C n (91:Nat)
 [tI (gI y136 1),tI (gI y141 0),tI (gI y141 1),tI (vI p142 3),tI (gI y163 0),tI (gI y163 1),tI (gI y163 2),tI (gI y163 3)]) fun y166=>cnd (length y166=(1:Nat)) (cnd (okB y166 0) (cnd
 (gB y166 0=true) (again160 ([AV.t (tI (vI p161 0))],[AA.row false (AF p161 0) (1:Nat) (oEs p161 0),AA.row false (AF p161 1) (1:Nat) (oEs p161 1),AA.row false (AF p161 2) (1:Nat) (oEs
 p161 2),AA.box [AV.t (Tree.sl (1:Nat) (cL p161 3 0)),AV.t (Tree.sl (7:Nat) (cL p161 3 1)),AV.t (Tree.sl (4:Nat) (cL p161 3 2)),AV.t (Tree.sl (5:Nat) (cL p161 3 3)),AV.t (tI (cI p161 3 4)),AV.t
 (tI (cI p161 3 5)),AV.t (tI (cI p161 3 6)),AV.t (tI (cI p161 3 7)),AV.t (tI (cI p161 3 8)),AV.t (tI (cI p161 3 9)),AV.t (Tree.bool (cB p161 3 10)),AV.sref (0:Nat) (AD p161 3 11) (AE p161 3
 11) (AB p161 3 11),AV.sref (1:Nat) (AD p161 3 12) (AE p161 3 12) (AB p161 3 12),AV.sref (2:Nat) (AD p161 3 13) (AE p161 3 13) (AB p161 3 13)],AA.box [AV.ptr (3:Nat) (0:Nat)],
 AA.row false (AF p161 5) (4:Nat) (oEs p161 5),AA.box [AV.sref (5:Nat) (AD p161 6 0) (AE p161 6 0) (AB p161 6 0)],AA.row false (AF p161 7) (4:Nat) (oEs p161 7),AA.box [AV.sref
 (7:Nat) (AD p161 8 0) (AE p161 8 0) (AB p161 8 0)],AA.box [],AA.box [AV.ptr (3:Nat) (0:Nat)],AA.box [],AA.box [],AA.box [],AA.box [],AA.box []])) (again162 ([AV.t (tI (w64
 ((vI p161 0)+(1:Int))))],[AA.row false (AF p161 0) (1:Nat) (oEs p161 0),AA.row false (AF p161 1) (1:Nat) (oEs p161 1),AA.row false (AF p161 2) (1:Nat) (oEs p161 2),AA.box [AV.t
 (Tree.sl (1:Nat) (cL p161 3 0)),AV.t (Tree.sl (7:Nat) (cL p161 3 1)),AV.t (Tree.sl (4:Nat) (cL p161 3 2)),AV.t (Tree.sl (5:Nat) (cL p161 3 3)),AV.t (tI (cI p161 3 4)),AV.t (tI (cI p161 3 5)),
 AV.t (tI (cI p161 3 6)),AV.t (tI (cI p161 3 7)),AV.t (tI (cI p161 3 8)),AV.t (tI (cI p161 3 9)),AV.t (Tree.bool (cB p161 3 10)),AV.sref (0:Nat) (AD p161 3 11) (AE p161 3 11) (AB p161 3 11),
 AV.sref (1:Nat) (AD p161 3 12) (AE p161 3 12) (AB p161 3 12),AV.sref (2:Nat) (AD p161 3 13) (AE p161 3 13) (AB p161 3 13)],AA.box [AV.ptr (3:Nat) (0:Nat)],AA.row false (AF p161 5)
 (4:Nat) (oEs p161 5),AA.box [AV.sref (5:Nat) (AD p161 6 0) (AE p161 6 0) (AB p161 6 0)],AA.row false (AF p161 7) (4:Nat) (oEs p161 7),AA.box [AV.sref (7:Nat) (AD p161 8 0) (AE
 p161 8 0) (AB p161 8 0)],AA.box [],AA.box [AV.ptr (3:Nat) (0:Nat)],AA.box [],AA.box [],AA.box [],AA.box [],AA.box []]))) none) none) none) none) none) none) none) none)
 (again160 ([AV.t (tI (-1:Int))],[AA.row false (AF p161 0) (1:Nat) (oEs p161 0),AA.row false (AF p161 1) (1:Nat) (oEs p161 1),AA.row false (AF p161 2) (1:Nat) (oEs p161 2),AA.box
 [AV.t (Tree.sl (1:Nat) (cL p161 3 0)),AV.t (Tree.sl (7:Nat) (cL p161 3 1)),AV.t (Tree.sl (4:Nat) (cL p161 3 2)),AV.t (Tree.sl (5:Nat) (cL p161 3 3)),AV.t (tI (cI p161 3 4)),AV.t (tI (cI p161 3
 5)),AV.t (tI (cI p161 3 6)),AV.t (tI (cI p161 3 7)),AV.t (tI (cI p161 3 8)),AV.t (tI (cI p161 3 9)),AV.t (Tree.bool (cB p161 3 10)),AV.sref (0:Nat) (AD p161 3 11) (AE p161 3 11) (AB p161 3
 11),AV.sref (1:Nat) (AD p161 3 12) (AE p161 3 12) (AB p161 3 12),AV.sref (2:Nat) (AD p161 3 13) (AE p161 3 13) (AB p161 3 13)],AA.box [AV.ptr (3:Nat) (0:Nat)],AA.row false (AF
 p161 5) (4:Nat) (oEs p161 5),AA.box [AV.sref (5:Nat) (AD p161 6 0) (AE p161 6 0) (AB p161 6 0)],AA.row false (AF p161 7) (4:Nat) (oEs p161 7),AA.box [AV.sref (7:Nat) (AD p161 8 0)
 (AE p161 8 0) (AB p161 8 0)],AA.box [],AA.box [AV.ptr (3:Nat) (0:Nat)],AA.box [],AA.box [],AA.box [],AA.box [],AA.box []]))
noncomputable def J16_34 (n:Nat) (again158:(List AV×Heap)→Option (List Tree)) (p159:List AV×Heap):Option (List Tree):=
 again158 ([AV.t (Tree.bool (decide (vI p159 0≥(0:Int))))],[AA.row false (AF p159 0) (1:Nat) (oEs p159 0),AA.row false (AF p159 1) (1:Nat) (oEs p159 1),AA.row false (AF p159 2) (1:Nat)
 (oEs p159 2),AA.box [AV.t (Tree.sl (1:Nat) (cL p159 3 0)),AV.t (Tree.sl (7:Nat) (cL p159 3 1)),AV.t (Tree.sl (4:Nat) (cL p159 3 2)),AV.t (Tree.sl (5:Nat) (cL p159 3 3)),AV.t (tI (cI p159 3 4)),
 AV.t (tI (cI p159 3 5)),AV.t (tI (cI p159 3 6)),AV.t (tI (cI p159 3 7)),AV.t (tI (cI p159 3 8)),AV.t (tI (cI p159 3 9)),AV.t (Tree.bool (cB p159 3 10)),AV.sref (0:Nat) (AD p159 3 11) (AE
 p159 3 11) (AB p159 3 11),AV.sref (1:Nat) (AD p159 3 12) (AE p159 3 12) (AB p159 3 12),AV.sref (2:Nat) (AD p159 3 13) (AE p159 3 13) (AB p159 3 13)],AA.box [AV.ptr (3:Nat) (0:Nat)],
 AA.row false (AF p159 5) (4:Nat) (oEs p159 5),AA.box [AV.sref (5:Nat) (AD p159 6 0) (AE p159 6 0) (AB p159 6 0)],AA.row false (AF p159 7) (4:Nat) (oEs p159 7),AA.box [AV.sref
 (7:Nat) (AD p159 8 0) (AE p159 8 0) (AB p159 8 0)],AA.box [],AA.box [AV.ptr (3:Nat) (0:Nat)],AA.box [],AA.box [],AA.box [],AA.box [],AA.box []])
noncomputable def J16_35 (n:Nat) (again156:(List AV×Heap)→Option (List Tree)) (p157:List AV×Heap):Option (List Tree):=
 again156 ([AV.t (Tree.bool (!(vB p157 0)))],[AA.row false (AF p157 0) (1:Nat) (oEs p157 0),AA.row false (AF p157 1) (1:Nat) (oEs p157 1),AA.row false (AF p157 2) (1:Nat) (oEs p157 2),
 AA.box [AV.t (Tree.sl (1:Nat) (cL p157 3 0)),AV.t (Tree.sl (7:Nat) (cL p157 3 1)),AV.t (Tree.sl (4:Nat) (cL p157 3 2)),AV.t (Tree.sl (5:Nat) (cL p157 3 3)),AV.t (tI (cI p157 3 4)),AV.t (tI (cI
 p157 3 5)),AV.t (tI (cI p157 3 6)),AV.t (tI (cI p157 3 7)),AV.t (tI (cI p157 3 8)),AV.t (tI (cI p157 3 9)),AV.t (Tree.bool (cB p157 3 10)),AV.sref (0:Nat) (AD p157 3 11) (AE p157 3 11) (AB
 p157 3 11),AV.sref (1:Nat) (AD p157 3 12) (AE p157 3 12) (AB p157 3 12),AV.sref (2:Nat) (AD p157 3 13) (AE p157 3 13) (AB p157 3 13)],AA.box [AV.ptr (3:Nat) (0:Nat)],AA.row false
 (AF p157 5) (4:Nat) (oEs p157 5),AA.box [AV.sref (5:Nat) (AD p157 6 0) (AE p157 6 0) (AB p157 6 0)],AA.row false (AF p157 7) (4:Nat) (oEs p157 7),AA.box [AV.sref (7:Nat) (AD p157
 8 0) (AE p157 8 0) (AB p157 8 0)],AA.box [],AA.box [AV.ptr (3:Nat) (0:Nat)],AA.box [],AA.box [],AA.box [],AA.box [],AA.box []])
noncomputable def J16_36 (n:Nat) (again140:(List AV×Heap)→Option (List Tree)) (p167:List AV×Heap):Option (List Tree):=
 again140 ([],[AA.row false (AF p167 0) (1:Nat) (oEs p167 0),AA.row false (AF p167 1) (1:Nat) (oEs p167 1),AA.row false (AF p167 2) (1:Nat) (oEs p167 2),AA.box [AV.t (Tree.sl (1:Nat)
 (cL p167 3 0)),AV.t (Tree.sl (7:Nat) (cL p167 3 1)),AV.t (Tree.sl (4:Nat) (cL p167 3 2)),AV.t (Tree.sl (5:Nat) (cL p167 3 3)),AV.t (tI (cI p167 3 4)),AV.t (tI (cI p167 3 5)),AV.t (tI (cI p167 3
 6)),AV.t (tI (cI p167 3 7)),AV.t (tI (cI p167 3 8)),AV.t (tI (cI p167 3 9)),AV.t (Tree.bool (cB p167 3 10)),AV.sref (0:Nat) (AD p167 3 11) (AE p167 3 11) (AB p167 3 11),AV.sref (1:Nat)
 (AD p167 3 12) (AE p167 3 12) (AB p167 3 12),AV.sref (2:Nat) (AD p167 3 13) (AE p167 3 13) (AB p167 3 13)],AA.box [AV.ptr (3:Nat) (0:Nat)],AA.row false (AF p167 5) (4:Nat) (oEs
 p167 5),AA.box [AV.sref (5:Nat) (AD p167 6 0) (AE p167 6 0) (AB p167 6 0)],AA.row false (AF p167 7) (4:Nat) (oEs p167 7),AA.box [AV.sref (7:Nat) (AD p167 8 0) (AE p167 8 0) (AB
 p167 8 0)],AA.box [],AA.box [AV.ptr (3:Nat) (0:Nat)],AA.box [],AA.box []])
noncomputable def J16_37 (n:Nat) (again140:(List AV×Heap)→Option (List Tree)) (y136:List Tree) (y141:List Tree) (p142:List AV×Heap) (p155:List AV×Heap):Option (List Tree):=
 join (fun (p167:List AV×Heap)=>J16_36 n again140 p167) fun (again168:_→Option (List Tree))=>cnd (vB p155 0=true) (cnd (AF p155 7=AD p155 8 0∧((4:Nat)=(4:Nat)∨(4:Nat)=
 (0:Nat))∧(AE p155 8 0)+(AB p155 8 0)≤length (oEs p155 7)∧(AB p155 8 0)+(1:Nat)≤(1073741824:Nat)) (again168 ([],[AA.row false (AF p155 0) (1:Nat) (oEs p155 0),AA.row
 false (AF p155 1) (1:Nat) (oEs p155 1),AA.row false (AF p155 2) (1:Nat) (oEs p155 2),AA.box [AV.t (Tree.sl (1:Nat) (cL p155 3 0)),AV.t (Tree.sl (7:Nat) (cL p155 3 1)),AV.t (Tree.sl (4:Nat)
 (cL p155 3 2)),AV.t (Tree.sl (5:Nat) (cL p155 3 3)),AV.t (tI (cI p155 3 4)),AV.t (tI (cI p155 3 5)),AV.t (tI (cI p155 3 6)),AV.t (tI (cI p155 3 7)),AV.t (tI (cI p155 3 8)),AV.t (tI (cI p155 3
 9)),AV.t (Tree.bool (cB p155 3 10)),AV.sref (0:Nat) (AD p155 3 11) (AE p155 3 11) (AB p155 3 11),AV.sref (1:Nat) (AD p155 3 12) (AE p155 3 12) (AB p155 3 12),AV.sref (2:Nat) (AD p155
 3 13) (AE p155 3 13) (AB p155 3 13)],AA.box [AV.ptr (3:Nat) (0:Nat)],AA.row false (AF p155 5) (4:Nat) (oEs p155 5),AA.box [AV.sref (5:Nat) (AD p155 6 0) (AE p155 6 0) (AB p155 6
 0)],AA.row false ((AD p155 8 0)+(1:Nat)) (4:Nat) ((take (AB p155 8 0) (drop (AE p155 8 0) (oEs p155 7)))++[[tI (gI y136 1),tI (gI y141 0),tI (gI y141 1),tI (vI p142 3)]]),
 AA.box [AV.sref (7:Nat) ((AD p155 8 0)+(1:Nat)) (0:Nat) ((AB p155 8 0)+(1:Nat))],AA.box [],AA.box [AV.ptr (3:Nat) (0:Nat)],AA.box [],AA.box [],AA.box [],AA.box [],AA.box
 []])) none) (again168 ([],[AA.row false (AF p155 0) (1:Nat) (oEs p155 0),AA.row false (AF p155 1) (1:Nat) (oEs p155 1),AA.row false (AF p155 2) (1:Nat) (oEs p155 2),AA.box [AV.t
 (Tree.sl (1:Nat) (cL p155 3 0)),AV.t (Tree.sl (7:Nat) (cL p155 3 1)),AV.t (Tree.sl (4:Nat) (cL p155 3 2)),AV.t (Tree.sl (5:Nat) (cL p155 3 3)),AV.t (tI (cI p155 3 4)),AV.t (tI (cI p155 3 5)),
 AV.t (tI (cI p155 3 6)),AV.t (tI (cI p155 3 7)),AV.t (tI (cI p155 3 8)),AV.t (tI (cI p155 3 9)),AV.t (Tree.bool (cB p155 3 10)),AV.sref (0:Nat) (AD p155 3 11) (AE p155 3 11) (AB p155 3 11),
 AV.sref (1:Nat) (AD p155 3 12) (AE p155 3 12) (AB p155 3 12),AV.sref (2:Nat) (AD p155 3 13) (AE p155 3 13) (AB p155 3 13)],AA.box [AV.ptr (3:Nat) (0:Nat)],AA.row false (AF p155 5)
 (4:Nat) (oEs p155 5),AA.box [AV.sref (5:Nat) (AD p155 6 0) (AE p155 6 0) (AB p155 6 0)],AA.row false (AF p155 7) (4:Nat) (oEs p155 7),AA.box [AV.sref (7:Nat) (AD p155 8 0) (AE
 p155 8 0) (AB p155 8 0)],AA.box [],AA.box [AV.ptr (3:Nat) (0:Nat)],AA.box [],AA.box [],AA.box [],AA.box [],AA.box []]))
noncomputable def J16_38 (n:Nat) (again140:(List AV×Heap)→Option (List Tree)) (y136:List Tree) (y141:List Tree) (p142:List AV×Heap) (p150:List AV×Heap):Option (List Tree):=
 cnd (vB p150 0=true) (again140 ([],[AA.row false (AF p150 0) (1:Nat) (oEs p150 0),AA.row false (AF p150 1) (1:Nat) (oEs p150 1),AA.row false (AF p150 2) (1:Nat) (oEs p150 2),AA.box
 [AV.t (Tree.sl (1:Nat) (cL p150 3 0)),AV.t (Tree.sl (7:Nat) (cL p150 3 1)),AV.t (Tree.sl (4:Nat) (cL p150 3 2)),AV.t (Tree.sl (5:Nat) (cL p150 3 3)),AV.t (tI (cI p150 3 4)),AV.t (tI (cI p150 3
 5)),AV.t (tI (cI p150 3 6)),AV.t (tI (cI p150 3 7)),AV.t (tI (cI p150 3 8)),AV.t (tI (cI p150 3 9)),AV.t (Tree.bool (cB p150 3 10)),AV.sref (0:Nat) (AD p150 3 11) (AE p150 3 11) (AB p150 3
 11),AV.sref (1:Nat) (AD p150 3 12) (AE p150 3 12) (AB p150 3 12),AV.sref (2:Nat) (AD p150 3 13) (AE p150 3 13) (AB p150 3 13)],AA.box [AV.ptr (3:Nat) (0:Nat)],AA.row false (AF
 p150 5) (4:Nat) (oEs p150 5),AA.box [AV.sref (5:Nat) (AD p150 6 0) (AE p150 6 0) (AB p150 6 0)],AA.row false (AF p150 7) (4:Nat) (oEs p150 7),AA.box [AV.sref (7:Nat) (AD p150 8 0)
 (AE p150 8 0) (AB p150 8 0)],AA.box [],AA.box [AV.ptr (3:Nat) (0:Nat)],AA.box [],AA.box []])) (join (fun (p155:List AV×Heap)=>J16_37 n again140 y136 y141 p142 p155) fun (again156
 : _→Option (List Tree))=>cnd (((gI y136 1) != (cI p150 3 5))=true) (join (fun (p157:List AV×Heap)=>J16_35 n again156 p157) fun (again158:_→Option (List Tree))=>join (fun (p159:List
 AV×Heap)=>J16_34 n again158 p159) fun (again160:_→Option (List Tree))=>cnd (AF p150 5=AD p150 6 0) (AO (fun (p161:List AV×Heap) (again162:_→Option (List Tree))=>L16_33
 n p150 y136 y141 p142 again160 p161 again162) n ([AV.t (tI (0:Int))],[AA.row false (AF p150 0) (1:Nat) (oEs p150 0),AA.row false (AF p150 1) (1:Nat) (oEs p150 1),AA.row false (AF p150
 2) (1:Nat) (oEs p150 2),AA.box [AV.t (Tree.sl (1:Nat) (cL p150 3 0)),AV.t (Tree.sl (7:Nat) (cL p150 3 1)),AV.t (Tree.sl (4:Nat) (cL p150 3 2)),AV.t (Tree.sl (5:Nat) (cL p150 3 3)),AV.t (tI (cI
 p150 3 4)),AV.t (tI (cI p150 3 5)),AV.t (tI (cI p150 3 6)),AV.t (tI (cI p150 3 7)),AV.t (tI (cI p150 3 8)),AV.t (tI (cI p150 3 9)),AV.t (Tree.bool (cB p150 3 10)),AV.sref (0:Nat) (AD p150 3
 11) (AE p150 3 11) (AB p150 3 11),AV.sref (1:Nat) (AD p150 3 12) (AE p150 3 12) (AB p150 3 12),AV.sref (2:Nat) (AD p150 3 13) (AE p150 3 13) (AB p150 3 13)],AA.box [AV.ptr (3:Nat)
 (0:Nat)],AA.row false (AF p150 5) (4:Nat) (oEs p150 5),AA.box [AV.sref (5:Nat) (AD p150 6 0) (AE p150 6 0) (AB p150 6 0)],AA.row false (AF p150 7) (4:Nat) (oEs p150 7),AA.box
 [AV.sref (7:Nat) (AD p150 8 0) (AE p150 8 0) (AB p150 8 0)],AA.box [],AA.box [AV.ptr (3:Nat) (0:Nat)],AA.box [],AA.box [],AA.box [],AA.box [],AA.box []])) none) (again156
 ([AV.t (Tree.bool false)],[AA.row false (AF p150 0) (1:Nat) (oEs p150 0),AA.row false (AF p150 1) (1:Nat) (oEs p150 1),AA.row false (AF p150 2) (1:Nat) (oEs p150 2),AA.box [AV.t
 (Tree.sl (1:Nat) (cL p150 3 0)),AV.t (Tree.sl (7:Nat) (cL p150 3 1)),AV.t (Tree.sl (4:Nat) (cL p150 3 2)),AV.t (Tree.sl (5:Nat) (cL p150 3 3)),AV.t (tI (cI p150 3 4)),AV.t (tI (cI p150 3 5)),
 AV.t (tI (cI p150 3 6)),AV.t (tI (cI p150 3 7)),AV.t (tI (cI p150 3 8)),AV.t (tI (cI p150 3 9)),AV.t (Tree.bool (cB p150 3 10)),AV.sref (0:Nat) (AD p150 3 11) (AE p150 3 11) (AB p150 3 11),
 AV.sref (1:Nat) (AD p150 3 12) (AE p150 3 12) (AB p150 3 12),AV.sref (2:Nat) (AD p150 3 13) (AE p150 3 13) (AB p150 3 13)],AA.box [AV.ptr (3:Nat) (0:Nat)],AA.row false (AF p150 5)
 (4:Nat) (oEs p150 5),AA.box [AV.sref (5:Nat) (AD p150 6 0) (AE p150 6 0) (AB p150 6 0)],AA.row false (AF p150 7) (4:Nat) (oEs p150 7),AA.box [AV.sref (7:Nat) (AD p150 8 0) (AE
 p150 8 0) (AB p150 8 0)],AA.box [],AA.box [AV.ptr (3:Nat) (0:Nat)],AA.box [],AA.box [],AA.box [],AA.box [],AA.box []])))
noncomputable def J16_39 (n:Nat) (again140:(List AV×Heap)→Option (List Tree)) (y136:List Tree) (y141:List Tree) (p33:List AV×Heap) (p142:List AV×Heap):Option (List Tree):=
 join (fun (p150:List AV×Heap)=>J16_38 n again140 y136 y141 p142 p150) fun (again151:_→Option (List Tree))=>cnd ((!(vB p142 4))=true) (again151 ([AV.t (Tree.bool true)],[AA.row false
 (AF p142 0) (1:Nat) (oEs p142 0),AA.row false (AF p142 1) (1:Nat) (oEs p142 1),AA.row false (AF p142 2) (1:Nat) (oEs p142 2),AA.box [AV.t (Tree.sl (1:Nat) (cL p142 3 0)),AV.t (Tree.sl
 (7:Nat) (cL p142 3 1)),AV.t (Tree.sl (4:Nat) (cL p142 3 2)),AV.t (Tree.sl (5:Nat) (cL p142 3 3)),AV.t (tI (cI p142 3 4)),AV.t (tI (cI p142 3 5)),AV.t (tI (cI p142 3 6)),AV.t (tI (cI p142 3 7)),
 AV.t (tI (cI p142 3 8)),AV.t (tI (cI p142 3 9)),AV.t (Tree.bool (cB p142 3 10)),AV.sref (0:Nat) (AD p142 3 11) (AE p142 3 11) (AB p142 3 11),AV.sref (1:Nat) (AD p142 3 12) (AE p142 3 12)
 (AB p142 3 12),AV.sref (2:Nat) (AD p142 3 13) (AE p142 3 13) (AB p142 3 13)],AA.box [AV.ptr (3:Nat) (0:Nat)],AA.row false (AF p142 5) (4:Nat) (oEs p142 5),AA.box [AV.sref (5:Nat)
 (AD p142 6 0) (AE p142 6 0) (AB p142 6 0)],AA.row false (AF p142 7) (4:Nat) (oEs p142 7),AA.box [AV.sref (7:Nat) (AD p142 8 0) (AE p142 8 0) (AB p142 8 0)],AA.box [],AA.box
 [AV.ptr (3:Nat) (0:Nat)],AA.box [],AA.box [],AA.box [],AA.box []])) (join (fun (p152:List AV×Heap)=>J16_32 n p33 again151 p142 y136 y141 p152) fun (again153:_→Option (List Tree))
 =>cnd (cB p142 3 10=true) (cnd ((7:Nat)=(7:Nat)∧(0:Int)≤vI p142 0) (Option.bind (cL p142 3 1)[toNat (vI p142 0)]? fun y154=>cnd (okI y154 5) (again153 ([AV.t (tI (w64 ((vI p142 2) +
 (w64 ((2:Int)*(gI y154 5))))))],[AA.row false (AF p142 0) (1:Nat) (oEs p142 0),AA.row false (AF p142 1) (1:Nat) (oEs p142 1),AA.row false (AF p142 2) (1:Nat) (oEs p142 2),AA.box
 [AV.t (Tree.sl (1:Nat) (cL p142 3 0)),AV.t (Tree.sl (7:Nat) (cL p142 3 1)),AV.t (Tree.sl (4:Nat) (cL p142 3 2)),AV.t (Tree.sl (5:Nat) (cL p142 3 3)),AV.t (tI (cI p142 3 4)),AV.t (tI (cI p142 3
 5)),AV.t (tI (cI p142 3 6)),AV.t (tI (cI p142 3 7)),AV.t (tI (cI p142 3 8)),AV.t (tI (cI p142 3 9)),AV.t (Tree.bool (cB p142 3 10)),AV.sref (0:Nat) (AD p142 3 11) (AE p142 3 11) (AB p142 3
 11),AV.sref (1:Nat) (AD p142 3 12) (AE p142 3 12) (AB p142 3 12),AV.sref (2:Nat) (AD p142 3 13) (AE p142 3 13) (AB p142 3 13)],AA.box [AV.ptr (3:Nat) (0:Nat)],AA.row false (AF
 p142 5) (4:Nat) (oEs p142 5),AA.box [AV.sref (5:Nat) (AD p142 6 0) (AE p142 6 0) (AB p142 6 0)],AA.row false (AF p142 7) (4:Nat) (oEs p142 7),AA.box [AV.sref (7:Nat) (AD p142 8 0)
 (AE p142 8 0) (AB p142 8 0)],AA.box [],AA.box [AV.ptr (3:Nat) (0:Nat)],AA.box [],AA.box [],AA.box [],AA.box []])) none) none) (again153 ([AV.t (tI (vI p142 2))],[AA.row false
 (AF p142 0) (1:Nat) (oEs p142 0),AA.row false (AF p142 1) (1:Nat) (oEs p142 1),AA.row false (AF p142 2) (1:Nat) (oEs p142 2),AA.box [AV.t (Tree.sl (1:Nat) (cL p142 3 0)),AV.t (Tree.sl
 (7:Nat) (cL p142 3 1)),AV.t (Tree.sl (4:Nat) (cL p142 3 2)),AV.t (Tree.sl (5:Nat) (cL p142 3 3)),AV.t (tI (cI p142 3 4)),AV.t (tI (cI p142 3 5)),AV.t (tI (cI p142 3 6)),AV.t (tI (cI p142 3 7)),
 AV.t (tI (cI p142 3 8)),AV.t (tI (cI p142 3 9)),AV.t (Tree.bool (cB p142 3 10)),AV.sref (0:Nat) (AD p142 3 11) (AE p142 3 11) (AB p142 3 11),AV.sref (1:Nat) (AD p142 3 12) (AE p142 3 12)
 (AB p142 3 12),AV.sref (2:Nat) (AD p142 3 13) (AE p142 3 13) (AB p142 3 13)],AA.box [AV.ptr (3:Nat) (0:Nat)],AA.row false (AF p142 5) (4:Nat) (oEs p142 5),AA.box [AV.sref (5:Nat)
 (AD p142 6 0) (AE p142 6 0) (AB p142 6 0)],AA.row false (AF p142 7) (4:Nat) (oEs p142 7),AA.box [AV.sref (7:Nat) (AD p142 8 0) (AE p142 8 0) (AB p142 8 0)],AA.box [],AA.box
 [AV.ptr (3:Nat) (0:Nat)],AA.box [],AA.box [],AA.box [],AA.box []])))
noncomputable def J16_40 (n:Nat) (again138:(List AV×Heap)→Option (List Tree)) (p137:List AV×Heap) (p139:List AV×Heap):Option (List Tree):=
 again138 ([AV.t (tI (w64 ((vI p137 0)+(1:Int))))],[AA.row false (AF p139 0) (1:Nat) (oEs p139 0),AA.row false (AF p139 1) (1:Nat) (oEs p139 1),AA.row false (AF p139 2) (1:Nat) (oEs
 p139 2),AA.box [AV.t (Tree.sl (1:Nat) (cL p139 3 0)),AV.t (Tree.sl (7:Nat) (cL p139 3 1)),AV.t (Tree.sl (4:Nat) (cL p139 3 2)),AV.t (Tree.sl (5:Nat) (cL p139 3 3)),AV.t (tI (cI p139 3 4)),AV.t
 (tI (cI p139 3 5)),AV.t (tI (cI p139 3 6)),AV.t (tI (cI p139 3 7)),AV.t (tI (cI p139 3 8)),AV.t (tI (cI p139 3 9)),AV.t (Tree.bool (cB p139 3 10)),AV.sref (0:Nat) (AD p139 3 11) (AE p139 3
 11) (AB p139 3 11),AV.sref (1:Nat) (AD p139 3 12) (AE p139 3 12) (AB p139 3 12),AV.sref (2:Nat) (AD p139 3 13) (AE p139 3 13) (AB p139 3 13)],AA.box [AV.ptr (3:Nat) (0:Nat)],
 AA.row false (AF p139 5) (4:Nat) (oEs p139 5),AA.box [AV.sref (5:Nat) (AD p139 6 0) (AE p139 6 0) (AB p139 6 0)],AA.row false (AF p139 7) (4:Nat) (oEs p139 7),AA.box [AV.sref
 (7:Nat) (AD p139 8 0) (AE p139 8 0) (AB p139 8 0)],AA.box [],AA.box [AV.ptr (3:Nat) (0:Nat)],AA.box [],AA.box []])
noncomputable def Uk (n:Nat) (y136:List Tree) (p33:List AV×Heap) (p132:List AV×Heap) (again135:(List AV×Heap)→Option (List Tree)) (p137:List AV×Heap) (again138:(List AV×Heap)→Option (List Tree)):Option (List Tree):=
 cnd (decide (vI p137 0<(1:Int))=true) (join (fun (p139:List AV×Heap)=>J16_40 n again138 p137 p139) fun (again140:_→Option (List Tree))=>cnd ((2:Nat)=(2:Nat)∧(0:Int)≤vI p137 0)
 (Option.bind [[tI (0:Int),tI (1099511627776:Int)]][toNat (vI p137 0)]? fun y141=>cnd (okI y141 0) (cnd (okI y141 1) (join (fun (p142:List AV×Heap)=>J16_39 n again140 y136 y141 p33 p142)
 fun (again143:_→Option (List Tree))=>cnd (AF p137 2=AD p137 3 13∧(1:Nat)=(1:Nat)∧(0:Int)≤vI p132 0∧vI p132 0<((AB p137 3 13:Nat):Int)) (cnd (AF p137 2=AD p137 3 13)
 (Option.bind (oEs p137 2)[(AE p137 3 13)+(toNat (vI p132 0))]? fun y144=>cnd (okI y144 0) (cnd (AF p137 0=AD p137 3 11∧(1:Nat)=(1:Nat)∧(0:Int)≤vI p132 0∧vI p132 0<((AB
 p137 3 11:Nat):Int)) (cnd (AF p137 0=AD p137 3 11) (Option.bind (oEs p137 0)[(AE p137 3 11)+(toNat (vI p132 0))]? fun y145=>cnd (okL 2 y145 0) (AO (fun (p146:List AV×Heap)
 (again147:_→Option (List Tree))=>L16_31 n y145 y141 p33 y144 p132 again143 p146 again147) n ([AV.t (tI (0:Int))],[AA.row false (AF p137 0) (1:Nat) (oEs p137 0),AA.row false (AF p137 1)
 (1:Nat) (oEs p137 1),AA.row false (AF p137 2) (1:Nat) (oEs p137 2),AA.box [AV.t (Tree.sl (1:Nat) (cL p137 3 0)),AV.t (Tree.sl (7:Nat) (cL p137 3 1)),AV.t (Tree.sl (4:Nat) (cL p137 3 2)),
 AV.t (Tree.sl (5:Nat) (cL p137 3 3)),AV.t (tI (cI p137 3 4)),AV.t (tI (cI p137 3 5)),AV.t (tI (cI p137 3 6)),AV.t (tI (cI p137 3 7)),AV.t (tI (cI p137 3 8)),AV.t (tI (cI p137 3 9)),AV.t
 (Tree.bool (cB p137 3 10)),AV.sref (0:Nat) (AD p137 3 11) (AE p137 3 11) (AB p137 3 11),AV.sref (1:Nat) (AD p137 3 12) (AE p137 3 12) (AB p137 3 12),AV.sref (2:Nat) (AD p137 3 13)
 (AE p137 3 13) (AB p137 3 13)],AA.box [AV.ptr (3:Nat) (0:Nat)],AA.row false (AF p137 5) (4:Nat) (oEs p137 5),AA.box [AV.sref (5:Nat) (AD p137 6 0) (AE p137 6 0) (AB p137 6 0)],
 AA.row false (AF p137 7) (4:Nat) (oEs p137 7),AA.box [AV.sref (7:Nat) (AD p137 8 0) (AE p137 8 0) (AB p137 8 0)],AA.box [],AA.box [AV.ptr (3:Nat) (0:Nat)],AA.box [],AA.box [],
 AA.box [],AA.box [AV.t (tI (0:Int)),AV.t (tI (0:Int)),AV.t (tI (0:Int)),AV.t (tI (0:Int))]])) none) none) none) none) none) none) none) none) none) (again135 ([],[AA.row false (AF p137 0)
 (1:Nat) (oEs p137 0),AA.row false (AF p137 1) (1:Nat) (oEs p137 1),AA.row false (AF p137 2) (1:Nat) (oEs p137 2),AA.box [AV.t (Tree.sl (1:Nat) (cL p137 3 0)),AV.t (Tree.sl (7:Nat) (cL
 p137 3 1)),AV.t (Tree.sl (4:Nat) (cL p137 3 2)),AV.t (Tree.sl (5:Nat) (cL p137 3 3)),AV.t (tI (cI p137 3 4)),AV.t (tI (cI p137 3 5)),AV.t (tI (cI p137 3 6)),AV.t (tI (cI p137 3 7)),AV.t (tI (cI
 p137 3 8)),AV.t (tI (cI p137 3 9)),AV.t (Tree.bool (cB p137 3 10)),AV.sref (0:Nat) (AD p137 3 11) (AE p137 3 11) (AB p137 3 11),AV.sref (1:Nat) (AD p137 3 12) (AE p137 3 12) (AB p137 3
 12),AV.sref (2:Nat) (AD p137 3 13) (AE p137 3 13) (AB p137 3 13)],AA.box [AV.ptr (3:Nat) (0:Nat)],AA.row false (AF p137 5) (4:Nat) (oEs p137 5),AA.box [AV.sref (5:Nat) (AD p137 6
 0) (AE p137 6 0) (AB p137 6 0)],AA.row false (AF p137 7) (4:Nat) (oEs p137 7),AA.box [AV.sref (7:Nat) (AD p137 8 0) (AE p137 8 0) (AB p137 8 0)],AA.box [],AA.box [AV.ptr
 (3:Nat) (0:Nat)],AA.box []]))
noncomputable def Nl (n:Nat) (y178:List Tree) (y174:List Tree) (p33:List AV×Heap) (y177:List Tree) (p132:List AV×Heap) (again176:(List AV×Heap)→Option (List Tree)) (p179:List AV×Heap) (again180:(List AV×Heap)→Option (List Tree)):Option (List Tree):=
 cnd (decide (vI p179 0<((length (gL y178 0):Nat):Int))=true) (cnd ((2:Nat)=(2:Nat)∧(0:Int)≤vI p179 0) (Option.bind (gL y178 0)[toNat (vI p179 0)]? fun y181=>cnd (okI y181 0) (cnd
 (okI y181 1) (cnd (decide (w64 ((if (if gI y174 0>vI p33 3 then gI y174 0 else vI p33 3)>gI y181 0 then (if gI y174 0>vI p33 3 then gI y174 0 else vI p33 3) else gI y181 0)+(gI y177 0))≤gI
 y181 1)=true) (cnd ((7:Nat)=(7:Nat)∧(0:Int)≤vI p132 0) (Option.bind (cL p179 3 1)[toNat (vI p132 0)]? fun y182=>cnd (okI y182 5) (again176 ([AV.t (tI (vI p132 0)),AV.t (tI (if (if gI
 y174 0>vI p33 3 then gI y174 0 else vI p33 3)>gI y181 0 then (if gI y174 0>vI p33 3 then gI y174 0 else vI p33 3) else gI y181 0)),AV.t (tI (w64 ((if (if gI y174 0>vI p33 3 then gI y174 0
 else vI p33 3)>gI y181 0 then (if gI y174 0>vI p33 3 then gI y174 0 else vI p33 3) else gI y181 0)+(gI y177 0)))),AV.t (tI (w64 ((w64 ((if (if gI y174 0>vI p33 3 then gI y174 0 else vI p33 3)
 > gI y181 0 then (if gI y174 0>vI p33 3 then gI y174 0 else vI p33 3) else gI y181 0)+(gI y177 0)))+(gI y182 5)))),AV.t (Tree.bool true)],[AA.row false (AF p179 0) (1:Nat) (oEs p179 0),
 AA.row false (AF p179 1) (1:Nat) (oEs p179 1),AA.row false (AF p179 2) (1:Nat) (oEs p179 2),AA.box [AV.t (Tree.sl (1:Nat) (cL p179 3 0)),AV.t (Tree.sl (7:Nat) (cL p179 3 1)),AV.t
 (Tree.sl (4:Nat) (cL p179 3 2)),AV.t (Tree.sl (5:Nat) (cL p179 3 3)),AV.t (tI (cI p179 3 4)),AV.t (tI (cI p179 3 5)),AV.t (tI (cI p179 3 6)),AV.t (tI (cI p179 3 7)),AV.t (tI (cI p179 3 8)),AV.t
 (tI (cI p179 3 9)),AV.t (Tree.bool (cB p179 3 10)),AV.sref (0:Nat) (AD p179 3 11) (AE p179 3 11) (AB p179 3 11),AV.sref (1:Nat) (AD p179 3 12) (AE p179 3 12) (AB p179 3 12),AV.sref
 (2:Nat) (AD p179 3 13) (AE p179 3 13) (AB p179 3 13)],AA.box [AV.ptr (3:Nat) (0:Nat)],AA.row false (AF p179 5) (4:Nat) (oEs p179 5),AA.box [AV.sref (5:Nat) (AD p179 6 0) (AE p179
 6 0) (AB p179 6 0)],AA.row false (AF p179 7) (4:Nat) (oEs p179 7),AA.box [AV.sref (7:Nat) (AD p179 8 0) (AE p179 8 0) (AB p179 8 0)],AA.box [],AA.box [AV.ptr (3:Nat) (0:Nat)],
 AA.box [],AA.box [],AA.box []])) none) none) (again180 ([AV.t (tI (w64 ((vI p179 0)+(1:Int))))],[AA.row false (AF p179 0) (1:Nat) (oEs p179 0),AA.row false (AF p179 1) (1:Nat) (oEs
 p179 1),AA.row false (AF p179 2) (1:Nat) (oEs p179 2),AA.box [AV.t (Tree.sl (1:Nat) (cL p179 3 0)),AV.t (Tree.sl (7:Nat) (cL p179 3 1)),AV.t (Tree.sl (4:Nat) (cL p179 3 2)),AV.t (Tree.sl
 (5:Nat) (cL p179 3 3)),AV.t (tI (cI p179 3 4)),AV.t (tI (cI p179 3 5)),AV.t (tI (cI p179 3 6)),AV.t (tI (cI p179 3 7)),AV.t (tI (cI p179 3 8)),AV.t (tI (cI p179 3 9)),AV.t (Tree.bool (cB p179 3
 10)),AV.sref (0:Nat) (AD p179 3 11) (AE p179 3 11) (AB p179 3 11),AV.sref (1:Nat) (AD p179 3 12) (AE p179 3 12) (AB p179 3 12),AV.sref (2:Nat) (AD p179 3 13) (AE p179 3 13) (AB
 p179 3 13)],AA.box [AV.ptr (3:Nat) (0:Nat)],AA.row false (AF p179 5) (4:Nat) (oEs p179 5),AA.box [AV.sref (5:Nat) (AD p179 6 0) (AE p179 6 0) (AB p179 6 0)],AA.row false (AF p179
 7) (4:Nat) (oEs p179 7),AA.box [AV.sref (7:Nat) (AD p179 8 0) (AE p179 8 0) (AB p179 8 0)],AA.box [],AA.box [AV.ptr (3:Nat) (0:Nat)],AA.box [],AA.box [],AA.box [],AA.box
 [AV.t (tI (cI p179 14 0)),AV.t (tI (cI p179 14 1)),AV.t (tI (cI p179 14 2)),AV.t (tI (cI p179 14 3))]]))) none) none) none) (again176 ([AV.t (tI (0:Int)),AV.t (tI (0:Int)),AV.t (tI (0:Int)),AV.t
 (tI (0:Int)),AV.t (Tree.bool false)],[AA.row false (AF p179 0) (1:Nat) (oEs p179 0),AA.row false (AF p179 1) (1:Nat) (oEs p179 1),AA.row false (AF p179 2) (1:Nat) (oEs p179 2),
 AA.box [AV.t (Tree.sl (1:Nat) (cL p179 3 0)),AV.t (Tree.sl (7:Nat) (cL p179 3 1)),AV.t (Tree.sl (4:Nat) (cL p179 3 2)),AV.t (Tree.sl (5:Nat) (cL p179 3 3)),AV.t (tI (cI p179 3 4)),AV.t (tI (cI
 p179 3 5)),AV.t (tI (cI p179 3 6)),AV.t (tI (cI p179 3 7)),AV.t (tI (cI p179 3 8)),AV.t (tI (cI p179 3 9)),AV.t (Tree.bool (cB p179 3 10)),AV.sref (0:Nat) (AD p179 3 11) (AE p179 3 11) (AB
 p179 3 11),AV.sref (1:Nat) (AD p179 3 12) (AE p179 3 12) (AB p179 3 12),AV.sref (2:Nat) (AD p179 3 13) (AE p179 3 13) (AB p179 3 13)],AA.box [AV.ptr (3:Nat) (0:Nat)],AA.row false
 (AF p179 5) (4:Nat) (oEs p179 5),AA.box [AV.sref (5:Nat) (AD p179 6 0) (AE p179 6 0) (AB p179 6 0)],AA.row false (AF p179 7) (4:Nat) (oEs p179 7),AA.box [AV.sref (7:Nat) (AD p179
 8 0) (AE p179 8 0) (AB p179 8 0)],AA.box [],AA.box [AV.ptr (3:Nat) (0:Nat)],AA.box [],AA.box [],AA.box []]))
noncomputable def Nt (n:Nat) (p33:List AV×Heap) (again184:(List AV×Heap)→Option (List Tree)) (p175:List AV×Heap) (y136:List Tree) (y174:List Tree) (p185:List AV×Heap):Option (List Tree):=
 cnd (decide (vI p185 0>vI p33 2)=true) (again184 ([AV.t (Tree.bool true)],[AA.row false (AF p185 0) (1:Nat) (oEs p185 0),AA.row false (AF p185 1) (1:Nat) (oEs p185 1),AA.row false
 (AF p185 2) (1:Nat) (oEs p185 2),AA.box [AV.t (Tree.sl (1:Nat) (cL p185 3 0)),AV.t (Tree.sl (7:Nat) (cL p185 3 1)),AV.t (Tree.sl (4:Nat) (cL p185 3 2)),AV.t (Tree.sl (5:Nat) (cL p185 3 3)),
 AV.t (tI (cI p185 3 4)),AV.t (tI (cI p185 3 5)),AV.t (tI (cI p185 3 6)),AV.t (tI (cI p185 3 7)),AV.t (tI (cI p185 3 8)),AV.t (tI (cI p185 3 9)),AV.t (Tree.bool (cB p185 3 10)),AV.sref (0:Nat)
 (AD p185 3 11) (AE p185 3 11) (AB p185 3 11),AV.sref (1:Nat) (AD p185 3 12) (AE p185 3 12) (AB p185 3 12),AV.sref (2:Nat) (AD p185 3 13) (AE p185 3 13) (AB p185 3 13)],AA.box
 [AV.ptr (3:Nat) (0:Nat)],AA.row false (AF p185 5) (4:Nat) (oEs p185 5),AA.box [AV.sref (5:Nat) (AD p185 6 0) (AE p185 6 0) (AB p185 6 0)],AA.row false (AF p185 7) (4:Nat) (oEs p185
 7),AA.box [AV.sref (7:Nat) (AD p185 8 0) (AE p185 8 0) (AB p185 8 0)],AA.box [],AA.box [AV.ptr (3:Nat) (0:Nat)],AA.box [],AA.box [],AA.box [],AA.box []])) (cnd (decide (vI
 p175 3>cI p185 3 8)=true) (again184 ([AV.t (Tree.bool true)],[AA.row false (AF p185 0) (1:Nat) (oEs p185 0),AA.row false (AF p185 1) (1:Nat) (oEs p185 1),AA.row false (AF p185 2)
 (1:Nat) (oEs p185 2),AA.box [AV.t (Tree.sl (1:Nat) (cL p185 3 0)),AV.t (Tree.sl (7:Nat) (cL p185 3 1)),AV.t (Tree.sl (4:Nat) (cL p185 3 2)),AV.t (Tree.sl (5:Nat) (cL p185 3 3)),AV.t (tI (cI
 p185 3 4)),AV.t (tI (cI p185 3 5)),AV.t (tI (cI p185 3 6)),AV.t (tI (cI p185 3 7)),AV.t (tI (cI p185 3 8)),AV.t (tI (cI p185 3 9)),AV.t (Tree.bool (cB p185 3 10)),AV.sref (0:Nat) (AD p185 3
 11) (AE p185 3 11) (AB p185 3 11),AV.sref (1:Nat) (AD p185 3 12) (AE p185 3 12) (AB p185 3 12),AV.sref (2:Nat) (AD p185 3 13) (AE p185 3 13) (AB p185 3 13)],AA.box [AV.ptr (3:Nat)
 (0:Nat)],AA.row false (AF p185 5) (4:Nat) (oEs p185 5),AA.box [AV.sref (5:Nat) (AD p185 6 0) (AE p185 6 0) (AB p185 6 0)],AA.row false (AF p185 7) (4:Nat) (oEs p185 7),AA.box
 [AV.sref (7:Nat) (AD p185 8 0) (AE p185 8 0) (AB p185 8 0)],AA.box [],AA.box [AV.ptr (3:Nat) (0:Nat)],AA.box [],AA.box [],AA.box [],AA.box []])) (cnd (((gI y136 1) != (cI p185
 3 5))=true) (again184 ([AV.t (Tree.bool (decide (vI p175 3≥gI y174 1)))],[AA.row false (AF p185 0) (1:Nat) (oEs p185 0),AA.row false (AF p185 1) (1:Nat) (oEs p185 1),AA.row false
 (AF p185 2) (1:Nat) (oEs p185 2),AA.box [AV.t (Tree.sl (1:Nat) (cL p185 3 0)),AV.t (Tree.sl (7:Nat) (cL p185 3 1)),AV.t (Tree.sl (4:Nat) (cL p185 3 2)),AV.t (Tree.sl (5:Nat) (cL p185 3 3)),
 AV.t (tI (cI p185 3 4)),AV.t (tI (cI p185 3 5)),AV.t (tI (cI p185 3 6)),AV.t (tI (cI p185 3 7)),AV.t (tI (cI p185 3 8)),AV.t (tI (cI p185 3 9)),AV.t (Tree.bool (cB p185 3 10)),AV.sref (0:Nat)
 (AD p185 3 11) (AE p185 3 11) (AB p185 3 11),AV.sref (1:Nat) (AD p185 3 12) (AE p185 3 12) (AB p185 3 12),AV.sref (2:Nat) (AD p185 3 13) (AE p185 3 13) (AB p185 3 13)],AA.box
 [AV.ptr (3:Nat) (0:Nat)],AA.row false (AF p185 5) (4:Nat) (oEs p185 5),AA.box [AV.sref (5:Nat) (AD p185 6 0) (AE p185 6 0) (AB p185 6 0)],AA.row false (AF p185 7) (4:Nat) (oEs p185
 7),AA.box [AV.sref (7:Nat) (AD p185 8 0) (AE p185 8 0) (AB p185 8 0)],AA.box [],AA.box [AV.ptr (3:Nat) (0:Nat)],AA.box [],AA.box [],AA.box [],AA.box []])) (again184 ([AV.t
 (Tree.bool false)],[AA.row false (AF p185 0) (1:Nat) (oEs p185 0),AA.row false (AF p185 1) (1:Nat) (oEs p185 1),AA.row false (AF p185 2) (1:Nat) (oEs p185 2),AA.box [AV.t (Tree.sl
 (1:Nat) (cL p185 3 0)),AV.t (Tree.sl (7:Nat) (cL p185 3 1)),AV.t (Tree.sl (4:Nat) (cL p185 3 2)),AV.t (Tree.sl (5:Nat) (cL p185 3 3)),AV.t (tI (cI p185 3 4)),AV.t (tI (cI p185 3 5)),AV.t (tI (cI
 p185 3 6)),AV.t (tI (cI p185 3 7)),AV.t (tI (cI p185 3 8)),AV.t (tI (cI p185 3 9)),AV.t (Tree.bool (cB p185 3 10)),AV.sref (0:Nat) (AD p185 3 11) (AE p185 3 11) (AB p185 3 11),AV.sref
 (1:Nat) (AD p185 3 12) (AE p185 3 12) (AB p185 3 12),AV.sref (2:Nat) (AD p185 3 13) (AE p185 3 13) (AB p185 3 13)],AA.box [AV.ptr (3:Nat) (0:Nat)],AA.row false (AF p185 5) (4:Nat)
 (oEs p185 5),AA.box [AV.sref (5:Nat) (AD p185 6 0) (AE p185 6 0) (AB p185 6 0)],AA.row false (AF p185 7) (4:Nat) (oEs p185 7),AA.box [AV.sref (7:Nat) (AD p185 8 0) (AE p185 8 0)
 (AB p185 8 0)],AA.box [],AA.box [AV.ptr (3:Nat) (0:Nat)],AA.box [],AA.box [],AA.box [],AA.box []]))))
noncomputable def Nk (n:Nat) (p183:List AV×Heap) (y136:List Tree) (y174:List Tree) (p175:List AV×Heap) (again193:(List AV×Heap)→Option (List Tree)) (p194:List AV×Heap) (again195:(List AV×Heap)→Option (List Tree)):Option (List Tree):=
 cnd (decide (vI p194 0<((AB p183 6 0:Nat):Int))=true) (cnd (AF p194 5=AD p183 6 0∧(4:Nat)=(4:Nat)∧(0:Int)≤vI p194 0∧vI p194 0<((AB p183 6 0:Nat):Int)) (cnd (AF p194 5 =
 AD p183 6 0) (Option.bind (oEs p194 5)[(AE p183 6 0)+(toNat (vI p194 0))]? fun y196=>cnd (okI y196 0) (cnd (okI y196 1) (cnd (okI y196 2) (cnd (okI y196 3) (Option.bind (AM C n (91:Nat)
 [tI (gI y136 1),tI (gI y174 0),tI (gI y174 1),tI (vI p175 3),tI (gI y196 0),tI (gI y196 1),tI (gI y196 2),tI (gI y196 3)]) fun y199=>cnd (length y199=(1:Nat)) (cnd (okB y199 0) (cnd
 (gB y199 0=true) (again193 ([AV.t (tI (vI p194 0))],[AA.row false (AF p194 0) (1:Nat) (oEs p194 0),AA.row false (AF p194 1) (1:Nat) (oEs p194 1),AA.row false (AF p194 2) (1:Nat) (oEs
 p194 2),AA.box [AV.t (Tree.sl (1:Nat) (cL p194 3 0)),AV.t (Tree.sl (7:Nat) (cL p194 3 1)),AV.t (Tree.sl (4:Nat) (cL p194 3 2)),AV.t (Tree.sl (5:Nat) (cL p194 3 3)),AV.t (tI (cI p194 3 4)),AV.t
 (tI (cI p194 3 5)),AV.t (tI (cI p194 3 6)),AV.t (tI (cI p194 3 7)),AV.t (tI (cI p194 3 8)),AV.t (tI (cI p194 3 9)),AV.t (Tree.bool (cB p194 3 10)),AV.sref (0:Nat) (AD p194 3 11) (AE p194 3
 11) (AB p194 3 11),AV.sref (1:Nat) (AD p194 3 12) (AE p194 3 12) (AB p194 3 12),AV.sref (2:Nat) (AD p194 3 13) (AE p194 3 13) (AB p194 3 13)],AA.box [AV.ptr (3:Nat) (0:Nat)],
 AA.row false (AF p194 5) (4:Nat) (oEs p194 5),AA.box [AV.sref (5:Nat) (AD p194 6 0) (AE p194 6 0) (AB p194 6 0)],AA.row false (AF p194 7) (4:Nat) (oEs p194 7),AA.box [AV.sref
 (7:Nat) (AD p194 8 0) (AE p194 8 0) (AB p194 8 0)],AA.box [],AA.box [AV.ptr (3:Nat) (0:Nat)],AA.box [],AA.box [],AA.box [],AA.box [],AA.box []])) (again195 ([AV.t (tI (w64
 ((vI p194 0)+(1:Int))))],[AA.row false (AF p194 0) (1:Nat) (oEs p194 0),AA.row false (AF p194 1) (1:Nat) (oEs p194 1),AA.row false (AF p194 2) (1:Nat) (oEs p194 2),AA.box [AV.t
 (Tree.sl (1:Nat) (cL p194 3 0)),AV.t (Tree.sl (7:Nat) (cL p194 3 1)),AV.t (Tree.sl (4:Nat) (cL p194 3 2)),AV.t (Tree.sl (5:Nat) (cL p194 3 3)),AV.t (tI (cI p194 3 4)),AV.t (tI (cI p194 3 5)),
 AV.t (tI (cI p194 3 6)),AV.t (tI (cI p194 3 7)),AV.t (tI (cI p194 3 8)),AV.t (tI (cI p194 3 9)),AV.t (Tree.bool (cB p194 3 10)),AV.sref (0:Nat) (AD p194 3 11) (AE p194 3 11) (AB p194 3 11),
 AV.sref (1:Nat) (AD p194 3 12) (AE p194 3 12) (AB p194 3 12),AV.sref (2:Nat) (AD p194 3 13) (AE p194 3 13) (AB p194 3 13)],AA.box [AV.ptr (3:Nat) (0:Nat)],AA.row false (AF p194 5)
 (4:Nat) (oEs p194 5),AA.box [AV.sref (5:Nat) (AD p194 6 0) (AE p194 6 0) (AB p194 6 0)],AA.row false (AF p194 7) (4:Nat) (oEs p194 7),AA.box [AV.sref (7:Nat) (AD p194 8 0) (AE
 p194 8 0) (AB p194 8 0)],AA.box [],AA.box [AV.ptr (3:Nat) (0:Nat)],AA.box [],AA.box [],AA.box [],AA.box [],AA.box []]))) none) none) none) none) none) none) none) none)
 (again193 ([AV.t (tI (-1:Int))],[AA.row false (AF p194 0) (1:Nat) (oEs p194 0),AA.row false (AF p194 1) (1:Nat) (oEs p194 1),AA.row false (AF p194 2) (1:Nat) (oEs p194 2),AA.box
 [AV.t (Tree.sl (1:Nat) (cL p194 3 0)),AV.t (Tree.sl (7:Nat) (cL p194 3 1)),AV.t (Tree.sl (4:Nat) (cL p194 3 2)),AV.t (Tree.sl (5:Nat) (cL p194 3 3)),AV.t (tI (cI p194 3 4)),AV.t (tI (cI p194 3
 5)),AV.t (tI (cI p194 3 6)),AV.t (tI (cI p194 3 7)),AV.t (tI (cI p194 3 8)),AV.t (tI (cI p194 3 9)),AV.t (Tree.bool (cB p194 3 10)),AV.sref (0:Nat) (AD p194 3 11) (AE p194 3 11) (AB p194 3
 11),AV.sref (1:Nat) (AD p194 3 12) (AE p194 3 12) (AB p194 3 12),AV.sref (2:Nat) (AD p194 3 13) (AE p194 3 13) (AB p194 3 13)],AA.box [AV.ptr (3:Nat) (0:Nat)],AA.row false (AF
 p194 5) (4:Nat) (oEs p194 5),AA.box [AV.sref (5:Nat) (AD p194 6 0) (AE p194 6 0) (AB p194 6 0)],AA.row false (AF p194 7) (4:Nat) (oEs p194 7),AA.box [AV.sref (7:Nat) (AD p194 8 0)
 (AE p194 8 0) (AB p194 8 0)],AA.box [],AA.box [AV.ptr (3:Nat) (0:Nat)],AA.box [],AA.box [],AA.box [],AA.box [],AA.box []]))
noncomputable def Qr (n:Nat) (again191:(List AV×Heap)→Option (List Tree)) (p192:List AV×Heap):Option (List Tree):=
 again191 ([AV.t (Tree.bool (decide (vI p192 0≥(0:Int))))],[AA.row false (AF p192 0) (1:Nat) (oEs p192 0),AA.row false (AF p192 1) (1:Nat) (oEs p192 1),AA.row false (AF p192 2) (1:Nat)
 (oEs p192 2),AA.box [AV.t (Tree.sl (1:Nat) (cL p192 3 0)),AV.t (Tree.sl (7:Nat) (cL p192 3 1)),AV.t (Tree.sl (4:Nat) (cL p192 3 2)),AV.t (Tree.sl (5:Nat) (cL p192 3 3)),AV.t (tI (cI p192 3 4)),
 AV.t (tI (cI p192 3 5)),AV.t (tI (cI p192 3 6)),AV.t (tI (cI p192 3 7)),AV.t (tI (cI p192 3 8)),AV.t (tI (cI p192 3 9)),AV.t (Tree.bool (cB p192 3 10)),AV.sref (0:Nat) (AD p192 3 11) (AE
 p192 3 11) (AB p192 3 11),AV.sref (1:Nat) (AD p192 3 12) (AE p192 3 12) (AB p192 3 12),AV.sref (2:Nat) (AD p192 3 13) (AE p192 3 13) (AB p192 3 13)],AA.box [AV.ptr (3:Nat) (0:Nat)],
 AA.row false (AF p192 5) (4:Nat) (oEs p192 5),AA.box [AV.sref (5:Nat) (AD p192 6 0) (AE p192 6 0) (AB p192 6 0)],AA.row false (AF p192 7) (4:Nat) (oEs p192 7),AA.box [AV.sref
 (7:Nat) (AD p192 8 0) (AE p192 8 0) (AB p192 8 0)],AA.box [],AA.box [AV.ptr (3:Nat) (0:Nat)],AA.box [],AA.box [],AA.box [],AA.box [],AA.box []])
noncomputable def Qq (n:Nat) (again189:(List AV×Heap)→Option (List Tree)) (p190:List AV×Heap):Option (List Tree):=
 again189 ([AV.t (Tree.bool (!(vB p190 0)))],[AA.row false (AF p190 0) (1:Nat) (oEs p190 0),AA.row false (AF p190 1) (1:Nat) (oEs p190 1),AA.row false (AF p190 2) (1:Nat) (oEs p190 2),
 AA.box [AV.t (Tree.sl (1:Nat) (cL p190 3 0)),AV.t (Tree.sl (7:Nat) (cL p190 3 1)),AV.t (Tree.sl (4:Nat) (cL p190 3 2)),AV.t (Tree.sl (5:Nat) (cL p190 3 3)),AV.t (tI (cI p190 3 4)),AV.t (tI (cI
 p190 3 5)),AV.t (tI (cI p190 3 6)),AV.t (tI (cI p190 3 7)),AV.t (tI (cI p190 3 8)),AV.t (tI (cI p190 3 9)),AV.t (Tree.bool (cB p190 3 10)),AV.sref (0:Nat) (AD p190 3 11) (AE p190 3 11) (AB
 p190 3 11),AV.sref (1:Nat) (AD p190 3 12) (AE p190 3 12) (AB p190 3 12),AV.sref (2:Nat) (AD p190 3 13) (AE p190 3 13) (AB p190 3 13)],AA.box [AV.ptr (3:Nat) (0:Nat)],AA.row false
 (AF p190 5) (4:Nat) (oEs p190 5),AA.box [AV.sref (5:Nat) (AD p190 6 0) (AE p190 6 0) (AB p190 6 0)],AA.row false (AF p190 7) (4:Nat) (oEs p190 7),AA.box [AV.sref (7:Nat) (AD p190
 8 0) (AE p190 8 0) (AB p190 8 0)],AA.box [],AA.box [AV.ptr (3:Nat) (0:Nat)],AA.box [],AA.box [],AA.box [],AA.box [],AA.box []])
noncomputable def Qp (n:Nat) (again173:(List AV×Heap)→Option (List Tree)) (p200:List AV×Heap):Option (List Tree):=
 again173 ([],[AA.row false (AF p200 0) (1:Nat) (oEs p200 0),AA.row false (AF p200 1) (1:Nat) (oEs p200 1),AA.row false (AF p200 2) (1:Nat) (oEs p200 2),AA.box [AV.t (Tree.sl (1:Nat)
 (cL p200 3 0)),AV.t (Tree.sl (7:Nat) (cL p200 3 1)),AV.t (Tree.sl (4:Nat) (cL p200 3 2)),AV.t (Tree.sl (5:Nat) (cL p200 3 3)),AV.t (tI (cI p200 3 4)),AV.t (tI (cI p200 3 5)),AV.t (tI (cI p200 3
 6)),AV.t (tI (cI p200 3 7)),AV.t (tI (cI p200 3 8)),AV.t (tI (cI p200 3 9)),AV.t (Tree.bool (cB p200 3 10)),AV.sref (0:Nat) (AD p200 3 11) (AE p200 3 11) (AB p200 3 11),AV.sref (1:Nat)
 (AD p200 3 12) (AE p200 3 12) (AB p200 3 12),AV.sref (2:Nat) (AD p200 3 13) (AE p200 3 13) (AB p200 3 13)],AA.box [AV.ptr (3:Nat) (0:Nat)],AA.row false (AF p200 5) (4:Nat) (oEs
 p200 5),AA.box [AV.sref (5:Nat) (AD p200 6 0) (AE p200 6 0) (AB p200 6 0)],AA.row false (AF p200 7) (4:Nat) (oEs p200 7),AA.box [AV.sref (7:Nat) (AD p200 8 0) (AE p200 8 0) (AB
 p200 8 0)],AA.box [],AA.box [AV.ptr (3:Nat) (0:Nat)],AA.box [],AA.box []])
noncomputable def Ha (n:Nat) (again173:(List AV×Heap)→Option (List Tree)) (y136:List Tree) (y174:List Tree) (p175:List AV×Heap) (p188:List AV×Heap):Option (List Tree):=
 join (fun (p200:List AV×Heap)=>Qp n again173 p200) fun (again201:_→Option (List Tree))=>cnd (vB p188 0=true) (cnd (AF p188 7=AD p188 8 0∧((4:Nat)=(4:Nat)∨(4:Nat)=
 (0:Nat))∧(AE p188 8 0)+(AB p188 8 0)≤length (oEs p188 7)∧(AB p188 8 0)+(1:Nat)≤(1073741824:Nat)) (again201 ([],[AA.row false (AF p188 0) (1:Nat) (oEs p188 0),AA.row
 false (AF p188 1) (1:Nat) (oEs p188 1),AA.row false (AF p188 2) (1:Nat) (oEs p188 2),AA.box [AV.t (Tree.sl (1:Nat) (cL p188 3 0)),AV.t (Tree.sl (7:Nat) (cL p188 3 1)),AV.t (Tree.sl (4:Nat)
 (cL p188 3 2)),AV.t (Tree.sl (5:Nat) (cL p188 3 3)),AV.t (tI (cI p188 3 4)),AV.t (tI (cI p188 3 5)),AV.t (tI (cI p188 3 6)),AV.t (tI (cI p188 3 7)),AV.t (tI (cI p188 3 8)),AV.t (tI (cI p188 3
 9)),AV.t (Tree.bool (cB p188 3 10)),AV.sref (0:Nat) (AD p188 3 11) (AE p188 3 11) (AB p188 3 11),AV.sref (1:Nat) (AD p188 3 12) (AE p188 3 12) (AB p188 3 12),AV.sref (2:Nat) (AD p188
 3 13) (AE p188 3 13) (AB p188 3 13)],AA.box [AV.ptr (3:Nat) (0:Nat)],AA.row false (AF p188 5) (4:Nat) (oEs p188 5),AA.box [AV.sref (5:Nat) (AD p188 6 0) (AE p188 6 0) (AB p188 6
 0)],AA.row false ((AD p188 8 0)+(1:Nat)) (4:Nat) ((take (AB p188 8 0) (drop (AE p188 8 0) (oEs p188 7)))++[[tI (gI y136 1),tI (gI y174 0),tI (gI y174 1),tI (vI p175 3)]]),
 AA.box [AV.sref (7:Nat) ((AD p188 8 0)+(1:Nat)) (0:Nat) ((AB p188 8 0)+(1:Nat))],AA.box [],AA.box [AV.ptr (3:Nat) (0:Nat)],AA.box [],AA.box [],AA.box [],AA.box [],AA.box
 []])) none) (again201 ([],[AA.row false (AF p188 0) (1:Nat) (oEs p188 0),AA.row false (AF p188 1) (1:Nat) (oEs p188 1),AA.row false (AF p188 2) (1:Nat) (oEs p188 2),AA.box [AV.t
 (Tree.sl (1:Nat) (cL p188 3 0)),AV.t (Tree.sl (7:Nat) (cL p188 3 1)),AV.t (Tree.sl (4:Nat) (cL p188 3 2)),AV.t (Tree.sl (5:Nat) (cL p188 3 3)),AV.t (tI (cI p188 3 4)),AV.t (tI (cI p188 3 5)),
 AV.t (tI (cI p188 3 6)),AV.t (tI (cI p188 3 7)),AV.t (tI (cI p188 3 8)),AV.t (tI (cI p188 3 9)),AV.t (Tree.bool (cB p188 3 10)),AV.sref (0:Nat) (AD p188 3 11) (AE p188 3 11) (AB p188 3 11),
 AV.sref (1:Nat) (AD p188 3 12) (AE p188 3 12) (AB p188 3 12),AV.sref (2:Nat) (AD p188 3 13) (AE p188 3 13) (AB p188 3 13)],AA.box [AV.ptr (3:Nat) (0:Nat)],AA.row false (AF p188 5)
 (4:Nat) (oEs p188 5),AA.box [AV.sref (5:Nat) (AD p188 6 0) (AE p188 6 0) (AB p188 6 0)],AA.row false (AF p188 7) (4:Nat) (oEs p188 7),AA.box [AV.sref (7:Nat) (AD p188 8 0) (AE
 p188 8 0) (AB p188 8 0)],AA.box [],AA.box [AV.ptr (3:Nat) (0:Nat)],AA.box [],AA.box [],AA.box [],AA.box [],AA.box []]))
noncomputable def Fe (n:Nat) (again173:(List AV×Heap)→Option (List Tree)) (y136:List Tree) (y174:List Tree) (p175:List AV×Heap) (p183:List AV×Heap):Option (List Tree):=
 cnd (vB p183 0=true) (again173 ([],[AA.row false (AF p183 0) (1:Nat) (oEs p183 0),AA.row false (AF p183 1) (1:Nat) (oEs p183 1),AA.row false (AF p183 2) (1:Nat) (oEs p183 2),AA.box
 [AV.t (Tree.sl (1:Nat) (cL p183 3 0)),AV.t (Tree.sl (7:Nat) (cL p183 3 1)),AV.t (Tree.sl (4:Nat) (cL p183 3 2)),AV.t (Tree.sl (5:Nat) (cL p183 3 3)),AV.t (tI (cI p183 3 4)),AV.t (tI (cI p183 3
 5)),AV.t (tI (cI p183 3 6)),AV.t (tI (cI p183 3 7)),AV.t (tI (cI p183 3 8)),AV.t (tI (cI p183 3 9)),AV.t (Tree.bool (cB p183 3 10)),AV.sref (0:Nat) (AD p183 3 11) (AE p183 3 11) (AB p183 3
 11),AV.sref (1:Nat) (AD p183 3 12) (AE p183 3 12) (AB p183 3 12),AV.sref (2:Nat) (AD p183 3 13) (AE p183 3 13) (AB p183 3 13)],AA.box [AV.ptr (3:Nat) (0:Nat)],AA.row false (AF
 p183 5) (4:Nat) (oEs p183 5),AA.box [AV.sref (5:Nat) (AD p183 6 0) (AE p183 6 0) (AB p183 6 0)],AA.row false (AF p183 7) (4:Nat) (oEs p183 7),AA.box [AV.sref (7:Nat) (AD p183 8 0)
 (AE p183 8 0) (AB p183 8 0)],AA.box [],AA.box [AV.ptr (3:Nat) (0:Nat)],AA.box [],AA.box []])) (join (fun (p188:List AV×Heap)=>Ha n again173 y136 y174 p175 p188) fun (again189
 : _→Option (List Tree))=>cnd (((gI y136 1) != (cI p183 3 5))=true) (join (fun (p190:List AV×Heap)=>Qq n again189 p190) fun (again191:_→Option (List Tree))=>join (fun (p192:List
 AV×Heap)=>Qr n again191 p192) fun (again193:_→Option (List Tree))=>cnd (AF p183 5=AD p183 6 0) (AO (fun (p194:List AV×Heap) (again195:_→Option (List Tree))=>Nk
 n p183 y136 y174 p175 again193 p194 again195) n ([AV.t (tI (0:Int))],[AA.row false (AF p183 0) (1:Nat) (oEs p183 0),AA.row false (AF p183 1) (1:Nat) (oEs p183 1),AA.row false (AF p183
 2) (1:Nat) (oEs p183 2),AA.box [AV.t (Tree.sl (1:Nat) (cL p183 3 0)),AV.t (Tree.sl (7:Nat) (cL p183 3 1)),AV.t (Tree.sl (4:Nat) (cL p183 3 2)),AV.t (Tree.sl (5:Nat) (cL p183 3 3)),AV.t (tI (cI
 p183 3 4)),AV.t (tI (cI p183 3 5)),AV.t (tI (cI p183 3 6)),AV.t (tI (cI p183 3 7)),AV.t (tI (cI p183 3 8)),AV.t (tI (cI p183 3 9)),AV.t (Tree.bool (cB p183 3 10)),AV.sref (0:Nat) (AD p183 3
 11) (AE p183 3 11) (AB p183 3 11),AV.sref (1:Nat) (AD p183 3 12) (AE p183 3 12) (AB p183 3 12),AV.sref (2:Nat) (AD p183 3 13) (AE p183 3 13) (AB p183 3 13)],AA.box [AV.ptr (3:Nat)
 (0:Nat)],AA.row false (AF p183 5) (4:Nat) (oEs p183 5),AA.box [AV.sref (5:Nat) (AD p183 6 0) (AE p183 6 0) (AB p183 6 0)],AA.row false (AF p183 7) (4:Nat) (oEs p183 7),AA.box
 [AV.sref (7:Nat) (AD p183 8 0) (AE p183 8 0) (AB p183 8 0)],AA.box [],AA.box [AV.ptr (3:Nat) (0:Nat)],AA.box [],AA.box [],AA.box [],AA.box [],AA.box []])) none) (again189
 ([AV.t (Tree.bool false)],[AA.row false (AF p183 0) (1:Nat) (oEs p183 0),AA.row false (AF p183 1) (1:Nat) (oEs p183 1),AA.row false (AF p183 2) (1:Nat) (oEs p183 2),AA.box [AV.t
 (Tree.sl (1:Nat) (cL p183 3 0)),AV.t (Tree.sl (7:Nat) (cL p183 3 1)),AV.t (Tree.sl (4:Nat) (cL p183 3 2)),AV.t (Tree.sl (5:Nat) (cL p183 3 3)),AV.t (tI (cI p183 3 4)),AV.t (tI (cI p183 3 5)),
 AV.t (tI (cI p183 3 6)),AV.t (tI (cI p183 3 7)),AV.t (tI (cI p183 3 8)),AV.t (tI (cI p183 3 9)),AV.t (Tree.bool (cB p183 3 10)),AV.sref (0:Nat) (AD p183 3 11) (AE p183 3 11) (AB p183 3 11),
 AV.sref (1:Nat) (AD p183 3 12) (AE p183 3 12) (AB p183 3 12),AV.sref (2:Nat) (AD p183 3 13) (AE p183 3 13) (AB p183 3 13)],AA.box [AV.ptr (3:Nat) (0:Nat)],AA.row false (AF p183 5)
 (4:Nat) (oEs p183 5),AA.box [AV.sref (5:Nat) (AD p183 6 0) (AE p183 6 0) (AB p183 6 0)],AA.row false (AF p183 7) (4:Nat) (oEs p183 7),AA.box [AV.sref (7:Nat) (AD p183 8 0) (AE
 p183 8 0) (AB p183 8 0)],AA.box [],AA.box [AV.ptr (3:Nat) (0:Nat)],AA.box [],AA.box [],AA.box [],AA.box [],AA.box []])))
noncomputable def HZ (n:Nat) (again173:(List AV×Heap)→Option (List Tree)) (y136:List Tree) (y174:List Tree) (p33:List AV×Heap) (p175:List AV×Heap):Option (List Tree):=
 join (fun (p183:List AV×Heap)=>Fe n again173 y136 y174 p175 p183) fun (again184:_→Option (List Tree))=>cnd ((!(vB p175 4))=true) (again184 ([AV.t (Tree.bool true)],[AA.row false
 (AF p175 0) (1:Nat) (oEs p175 0),AA.row false (AF p175 1) (1:Nat) (oEs p175 1),AA.row false (AF p175 2) (1:Nat) (oEs p175 2),AA.box [AV.t (Tree.sl (1:Nat) (cL p175 3 0)),AV.t (Tree.sl
 (7:Nat) (cL p175 3 1)),AV.t (Tree.sl (4:Nat) (cL p175 3 2)),AV.t (Tree.sl (5:Nat) (cL p175 3 3)),AV.t (tI (cI p175 3 4)),AV.t (tI (cI p175 3 5)),AV.t (tI (cI p175 3 6)),AV.t (tI (cI p175 3 7)),
 AV.t (tI (cI p175 3 8)),AV.t (tI (cI p175 3 9)),AV.t (Tree.bool (cB p175 3 10)),AV.sref (0:Nat) (AD p175 3 11) (AE p175 3 11) (AB p175 3 11),AV.sref (1:Nat) (AD p175 3 12) (AE p175 3 12)
 (AB p175 3 12),AV.sref (2:Nat) (AD p175 3 13) (AE p175 3 13) (AB p175 3 13)],AA.box [AV.ptr (3:Nat) (0:Nat)],AA.row false (AF p175 5) (4:Nat) (oEs p175 5),AA.box [AV.sref (5:Nat)
 (AD p175 6 0) (AE p175 6 0) (AB p175 6 0)],AA.row false (AF p175 7) (4:Nat) (oEs p175 7),AA.box [AV.sref (7:Nat) (AD p175 8 0) (AE p175 8 0) (AB p175 8 0)],AA.box [],AA.box
 [AV.ptr (3:Nat) (0:Nat)],AA.box [],AA.box [],AA.box [],AA.box []])) (join (fun (p185:List AV×Heap)=>Nt n p33 again184 p175 y136 y174 p185) fun (again186:_→Option (List Tree))
 =>cnd (cB p175 3 10=true) (cnd ((7:Nat)=(7:Nat)∧(0:Int)≤vI p175 0) (Option.bind (cL p175 3 1)[toNat (vI p175 0)]? fun y187=>cnd (okI y187 5) (again186 ([AV.t (tI (w64 ((vI p175 2) +
 (w64 ((2:Int)*(gI y187 5))))))],[AA.row false (AF p175 0) (1:Nat) (oEs p175 0),AA.row false (AF p175 1) (1:Nat) (oEs p175 1),AA.row false (AF p175 2) (1:Nat) (oEs p175 2),AA.box
 [AV.t (Tree.sl (1:Nat) (cL p175 3 0)),AV.t (Tree.sl (7:Nat) (cL p175 3 1)),AV.t (Tree.sl (4:Nat) (cL p175 3 2)),AV.t (Tree.sl (5:Nat) (cL p175 3 3)),AV.t (tI (cI p175 3 4)),AV.t (tI (cI p175 3
 5)),AV.t (tI (cI p175 3 6)),AV.t (tI (cI p175 3 7)),AV.t (tI (cI p175 3 8)),AV.t (tI (cI p175 3 9)),AV.t (Tree.bool (cB p175 3 10)),AV.sref (0:Nat) (AD p175 3 11) (AE p175 3 11) (AB p175 3
 11),AV.sref (1:Nat) (AD p175 3 12) (AE p175 3 12) (AB p175 3 12),AV.sref (2:Nat) (AD p175 3 13) (AE p175 3 13) (AB p175 3 13)],AA.box [AV.ptr (3:Nat) (0:Nat)],AA.row false (AF
 p175 5) (4:Nat) (oEs p175 5),AA.box [AV.sref (5:Nat) (AD p175 6 0) (AE p175 6 0) (AB p175 6 0)],AA.row false (AF p175 7) (4:Nat) (oEs p175 7),AA.box [AV.sref (7:Nat) (AD p175 8 0)
 (AE p175 8 0) (AB p175 8 0)],AA.box [],AA.box [AV.ptr (3:Nat) (0:Nat)],AA.box [],AA.box [],AA.box [],AA.box []])) none) none) (again186 ([AV.t (tI (vI p175 2))],[AA.row false
 (AF p175 0) (1:Nat) (oEs p175 0),AA.row false (AF p175 1) (1:Nat) (oEs p175 1),AA.row false (AF p175 2) (1:Nat) (oEs p175 2),AA.box [AV.t (Tree.sl (1:Nat) (cL p175 3 0)),AV.t (Tree.sl
 (7:Nat) (cL p175 3 1)),AV.t (Tree.sl (4:Nat) (cL p175 3 2)),AV.t (Tree.sl (5:Nat) (cL p175 3 3)),AV.t (tI (cI p175 3 4)),AV.t (tI (cI p175 3 5)),AV.t (tI (cI p175 3 6)),AV.t (tI (cI p175 3 7)),
 AV.t (tI (cI p175 3 8)),AV.t (tI (cI p175 3 9)),AV.t (Tree.bool (cB p175 3 10)),AV.sref (0:Nat) (AD p175 3 11) (AE p175 3 11) (AB p175 3 11),AV.sref (1:Nat) (AD p175 3 12) (AE p175 3 12)
 (AB p175 3 12),AV.sref (2:Nat) (AD p175 3 13) (AE p175 3 13) (AB p175 3 13)],AA.box [AV.ptr (3:Nat) (0:Nat)],AA.row false (AF p175 5) (4:Nat) (oEs p175 5),AA.box [AV.sref (5:Nat)
 (AD p175 6 0) (AE p175 6 0) (AB p175 6 0)],AA.row false (AF p175 7) (4:Nat) (oEs p175 7),AA.box [AV.sref (7:Nat) (AD p175 8 0) (AE p175 8 0) (AB p175 8 0)],AA.box [],AA.box
 [AV.ptr (3:Nat) (0:Nat)],AA.box [],AA.box [],AA.box [],AA.box []])))
noncomputable def Ns (n:Nat) (again171:(List AV×Heap)→Option (List Tree)) (p170:List AV×Heap) (p172:List AV×Heap):Option (List Tree):=
 again171 ([AV.t (tI (w64 ((vI p170 0)+(1:Int))))],[AA.row false (AF p172 0) (1:Nat) (oEs p172 0),AA.row false (AF p172 1) (1:Nat) (oEs p172 1),AA.row false (AF p172 2) (1:Nat) (oEs
 p172 2),AA.box [AV.t (Tree.sl (1:Nat) (cL p172 3 0)),AV.t (Tree.sl (7:Nat) (cL p172 3 1)),AV.t (Tree.sl (4:Nat) (cL p172 3 2)),AV.t (Tree.sl (5:Nat) (cL p172 3 3)),AV.t (tI (cI p172 3 4)),AV.t
 (tI (cI p172 3 5)),AV.t (tI (cI p172 3 6)),AV.t (tI (cI p172 3 7)),AV.t (tI (cI p172 3 8)),AV.t (tI (cI p172 3 9)),AV.t (Tree.bool (cB p172 3 10)),AV.sref (0:Nat) (AD p172 3 11) (AE p172 3
 11) (AB p172 3 11),AV.sref (1:Nat) (AD p172 3 12) (AE p172 3 12) (AB p172 3 12),AV.sref (2:Nat) (AD p172 3 13) (AE p172 3 13) (AB p172 3 13)],AA.box [AV.ptr (3:Nat) (0:Nat)],
 AA.row false (AF p172 5) (4:Nat) (oEs p172 5),AA.box [AV.sref (5:Nat) (AD p172 6 0) (AE p172 6 0) (AB p172 6 0)],AA.row false (AF p172 7) (4:Nat) (oEs p172 7),AA.box [AV.sref
 (7:Nat) (AD p172 8 0) (AE p172 8 0) (AB p172 8 0)],AA.box [],AA.box [AV.ptr (3:Nat) (0:Nat)],AA.box [],AA.box []])
noncomputable def Lc (n:Nat) (y169:List Tree) (y136:List Tree) (p33:List AV×Heap) (p132:List AV×Heap) (again135:(List AV×Heap)→Option (List Tree)) (p170:List AV×Heap) (again171:(List AV×Heap)→Option (List Tree)):Option (List Tree):=
 cnd (decide (vI p170 0<((length (gL y169 0):Nat):Int))=true) (join (fun (p172:List AV×Heap)=>Ns n again171 p170 p172) fun (again173:_→Option (List Tree))=>cnd ((2:Nat)=
 (2:Nat)∧(0:Int)≤vI p170 0) (Option.bind (gL y169 0)[toNat (vI p170 0)]? fun y174=>cnd (okI y174 0) (cnd (okI y174 1) (join (fun (p175:List AV×Heap)=>HZ n again173 y136 y174 p33
 p175) fun (again176:_→Option (List Tree))=>cnd (AF p170 2=AD p170 3 13∧(1:Nat)=(1:Nat)∧(0:Int)≤vI p132 0∧vI p132 0<((AB p170 3 13:Nat):Int)) (cnd (AF p170 2=AD p170 3
 13) (Option.bind (oEs p170 2)[(AE p170 3 13)+(toNat (vI p132 0))]? fun y177=>cnd (okI y177 0) (cnd (AF p170 0=AD p170 3 11∧(1:Nat)=(1:Nat)∧(0:Int)≤vI p132 0∧vI p132 0 <
 ((AB p170 3 11:Nat):Int)) (cnd (AF p170 0=AD p170 3 11) (Option.bind (oEs p170 0)[(AE p170 3 11)+(toNat (vI p132 0))]? fun y178=>cnd (okL 2 y178 0) (AO (fun (p179:List AV ×
 Heap) (again180:_→Option (List Tree))=>Nl n y178 y174 p33 y177 p132 again176 p179 again180) n ([AV.t (tI (0:Int))],[AA.row false (AF p170 0) (1:Nat) (oEs p170 0),AA.row false (AF
 p170 1) (1:Nat) (oEs p170 1),AA.row false (AF p170 2) (1:Nat) (oEs p170 2),AA.box [AV.t (Tree.sl (1:Nat) (cL p170 3 0)),AV.t (Tree.sl (7:Nat) (cL p170 3 1)),AV.t (Tree.sl (4:Nat) (cL p170 3
 2)),AV.t (Tree.sl (5:Nat) (cL p170 3 3)),AV.t (tI (cI p170 3 4)),AV.t (tI (cI p170 3 5)),AV.t (tI (cI p170 3 6)),AV.t (tI (cI p170 3 7)),AV.t (tI (cI p170 3 8)),AV.t (tI (cI p170 3 9)),AV.t
 (Tree.bool (cB p170 3 10)),AV.sref (0:Nat) (AD p170 3 11) (AE p170 3 11) (AB p170 3 11),AV.sref (1:Nat) (AD p170 3 12) (AE p170 3 12) (AB p170 3 12),AV.sref (2:Nat) (AD p170 3 13)
 (AE p170 3 13) (AB p170 3 13)],AA.box [AV.ptr (3:Nat) (0:Nat)],AA.row false (AF p170 5) (4:Nat) (oEs p170 5),AA.box [AV.sref (5:Nat) (AD p170 6 0) (AE p170 6 0) (AB p170 6 0)],
 AA.row false (AF p170 7) (4:Nat) (oEs p170 7),AA.box [AV.sref (7:Nat) (AD p170 8 0) (AE p170 8 0) (AB p170 8 0)],AA.box [],AA.box [AV.ptr (3:Nat) (0:Nat)],AA.box [],AA.box [],
 AA.box [],AA.box [AV.t (tI (0:Int)),AV.t (tI (0:Int)),AV.t (tI (0:Int)),AV.t (tI (0:Int))]])) none) none) none) none) none) none) none) none) none) (again135 ([],[AA.row false (AF p170 0)
 (1:Nat) (oEs p170 0),AA.row false (AF p170 1) (1:Nat) (oEs p170 1),AA.row false (AF p170 2) (1:Nat) (oEs p170 2),AA.box [AV.t (Tree.sl (1:Nat) (cL p170 3 0)),AV.t (Tree.sl (7:Nat) (cL
 p170 3 1)),AV.t (Tree.sl (4:Nat) (cL p170 3 2)),AV.t (Tree.sl (5:Nat) (cL p170 3 3)),AV.t (tI (cI p170 3 4)),AV.t (tI (cI p170 3 5)),AV.t (tI (cI p170 3 6)),AV.t (tI (cI p170 3 7)),AV.t (tI (cI
 p170 3 8)),AV.t (tI (cI p170 3 9)),AV.t (Tree.bool (cB p170 3 10)),AV.sref (0:Nat) (AD p170 3 11) (AE p170 3 11) (AB p170 3 11),AV.sref (1:Nat) (AD p170 3 12) (AE p170 3 12) (AB p170 3
 12),AV.sref (2:Nat) (AD p170 3 13) (AE p170 3 13) (AB p170 3 13)],AA.box [AV.ptr (3:Nat) (0:Nat)],AA.row false (AF p170 5) (4:Nat) (oEs p170 5),AA.box [AV.sref (5:Nat) (AD p170 6
 0) (AE p170 6 0) (AB p170 6 0)],AA.row false (AF p170 7) (4:Nat) (oEs p170 7),AA.box [AV.sref (7:Nat) (AD p170 8 0) (AE p170 8 0) (AB p170 8 0)],AA.box [],AA.box [AV.ptr
 (3:Nat) (0:Nat)],AA.box []]))
noncomputable def JJ (n:Nat) (again133:(List AV×Heap)→Option (List Tree)) (p132:List AV×Heap) (p134:List AV×Heap):Option (List Tree):=
 again133 ([AV.t (tI (w64 ((vI p132 0)+(1:Int))))],[AA.row false (AF p134 0) (1:Nat) (oEs p134 0),AA.row false (AF p134 1) (1:Nat) (oEs p134 1),AA.row false (AF p134 2) (1:Nat) (oEs
 p134 2),AA.box [AV.t (Tree.sl (1:Nat) (cL p134 3 0)),AV.t (Tree.sl (7:Nat) (cL p134 3 1)),AV.t (Tree.sl (4:Nat) (cL p134 3 2)),AV.t (Tree.sl (5:Nat) (cL p134 3 3)),AV.t (tI (cI p134 3 4)),AV.t
 (tI (cI p134 3 5)),AV.t (tI (cI p134 3 6)),AV.t (tI (cI p134 3 7)),AV.t (tI (cI p134 3 8)),AV.t (tI (cI p134 3 9)),AV.t (Tree.bool (cB p134 3 10)),AV.sref (0:Nat) (AD p134 3 11) (AE p134 3
 11) (AB p134 3 11),AV.sref (1:Nat) (AD p134 3 12) (AE p134 3 12) (AB p134 3 12),AV.sref (2:Nat) (AD p134 3 13) (AE p134 3 13) (AB p134 3 13)],AA.box [AV.ptr (3:Nat) (0:Nat)],
 AA.row false (AF p134 5) (4:Nat) (oEs p134 5),AA.box [AV.sref (5:Nat) (AD p134 6 0) (AE p134 6 0) (AB p134 6 0)],AA.row false (AF p134 7) (4:Nat) (oEs p134 7),AA.box [AV.sref
 (7:Nat) (AD p134 8 0) (AE p134 8 0) (AB p134 8 0)],AA.box [],AA.box [AV.ptr (3:Nat) (0:Nat)],AA.box []])
noncomputable def JH (n:Nat) (p123:List AV×Heap) (p33:List AV×Heap) (again32:(List AV×Heap)→Option (List Tree)) (p132:List AV×Heap) (again133:(List AV×Heap)→Option (List Tree)):Option (List Tree):=
 cnd (decide (vI p132 0<((length (cL p123 3 1):Nat):Int))=true) (join (fun (p134:List AV×Heap)=>JJ n again133 p132 p134) fun (again135:_→Option (List Tree))=>cnd ((7:Nat)=
 (7:Nat)∧(0:Int)≤vI p132 0) (Option.bind (cL p123 3 1)[toNat (vI p132 0)]? fun y136=>cnd (okI y136 0) (cnd (okI y136 1) (cnd (okI y136 2) (cnd (okI y136 3) (cnd (okI y136 4) (cnd (okI y136 5)
 (cnd (okI y136 6) (cnd (((gI y136 0) != (vI p33 0))=true) (again135 ([],[AA.row false (AF p132 0) (1:Nat) (oEs p132 0),AA.row false (AF p132 1) (1:Nat) (oEs p132 1),AA.row false (AF
 p132 2) (1:Nat) (oEs p132 2),AA.box [AV.t (Tree.sl (1:Nat) (cL p132 3 0)),AV.t (Tree.sl (7:Nat) (cL p132 3 1)),AV.t (Tree.sl (4:Nat) (cL p132 3 2)),AV.t (Tree.sl (5:Nat) (cL p132 3 3)),AV.t (tI
 (cI p132 3 4)),AV.t (tI (cI p132 3 5)),AV.t (tI (cI p132 3 6)),AV.t (tI (cI p132 3 7)),AV.t (tI (cI p132 3 8)),AV.t (tI (cI p132 3 9)),AV.t (Tree.bool (cB p132 3 10)),AV.sref (0:Nat) (AD p132
 3 11) (AE p132 3 11) (AB p132 3 11),AV.sref (1:Nat) (AD p132 3 12) (AE p132 3 12) (AB p132 3 12),AV.sref (2:Nat) (AD p132 3 13) (AE p132 3 13) (AB p132 3 13)],AA.box [AV.ptr
 (3:Nat) (0:Nat)],AA.row false (AF p132 5) (4:Nat) (oEs p132 5),AA.box [AV.sref (5:Nat) (AD p132 6 0) (AE p132 6 0) (AB p132 6 0)],AA.row false (AF p132 7) (4:Nat) (oEs p132 7),
 AA.box [AV.sref (7:Nat) (AD p132 8 0) (AE p132 8 0) (AB p132 8 0)],AA.box [],AA.box [AV.ptr (3:Nat) (0:Nat)],AA.box []])) (cnd (((gI y136 1)==(cI p132 3 5))=true) (AO (fun
 (p137:List AV×Heap) (again138:_→Option (List Tree))=>Uk n y136 p33 p132 again135 p137 again138) n ([AV.t (tI (0:Int))],[AA.row false (AF p132 0) (1:Nat) (oEs p132 0),AA.row false
 (AF p132 1) (1:Nat) (oEs p132 1),AA.row false (AF p132 2) (1:Nat) (oEs p132 2),AA.box [AV.t (Tree.sl (1:Nat) (cL p132 3 0)),AV.t (Tree.sl (7:Nat) (cL p132 3 1)),AV.t (Tree.sl (4:Nat) (cL
 p132 3 2)),AV.t (Tree.sl (5:Nat) (cL p132 3 3)),AV.t (tI (cI p132 3 4)),AV.t (tI (cI p132 3 5)),AV.t (tI (cI p132 3 6)),AV.t (tI (cI p132 3 7)),AV.t (tI (cI p132 3 8)),AV.t (tI (cI p132 3 9)),
 AV.t (Tree.bool (cB p132 3 10)),AV.sref (0:Nat) (AD p132 3 11) (AE p132 3 11) (AB p132 3 11),AV.sref (1:Nat) (AD p132 3 12) (AE p132 3 12) (AB p132 3 12),AV.sref (2:Nat) (AD p132 3
 13) (AE p132 3 13) (AB p132 3 13)],AA.box [AV.ptr (3:Nat) (0:Nat)],AA.row false (AF p132 5) (4:Nat) (oEs p132 5),AA.box [AV.sref (5:Nat) (AD p132 6 0) (AE p132 6 0) (AB p132 6
 0)],AA.row false (AF p132 7) (4:Nat) (oEs p132 7),AA.box [AV.sref (7:Nat) (AD p132 8 0) (AE p132 8 0) (AB p132 8 0)],AA.box [],AA.box [AV.ptr (3:Nat) (0:Nat)],AA.box [],
 AA.box []])) (cnd (AF p132 1=AD p132 3 12∧(1:Nat)=(1:Nat)∧(0:Int)≤gI y136 1∧gI y136 1<((AB p132 3 12:Nat):Int)) (cnd (AF p132 1=AD p132 3 12) (Option.bind (oEs p132
 1)[(AE p132 3 12)+(toNat (gI y136 1))]? fun y169=>cnd (okL 2 y169 0) (AO (fun (p170:List AV×Heap) (again171:_→Option (List Tree))=>Lc n y169 y136 p33 p132 again135 p170
 again171) n ([AV.t (tI (0:Int))],[AA.row false (AF p132 0) (1:Nat) (oEs p132 0),AA.row false (AF p132 1) (1:Nat) (oEs p132 1),AA.row false (AF p132 2) (1:Nat) (oEs p132 2),AA.box
 [AV.t (Tree.sl (1:Nat) (cL p132 3 0)),AV.t (Tree.sl (7:Nat) (cL p132 3 1)),AV.t (Tree.sl (4:Nat) (cL p132 3 2)),AV.t (Tree.sl (5:Nat) (cL p132 3 3)),AV.t (tI (cI p132 3 4)),AV.t (tI (cI p132 3
 5)),AV.t (tI (cI p132 3 6)),AV.t (tI (cI p132 3 7)),AV.t (tI (cI p132 3 8)),AV.t (tI (cI p132 3 9)),AV.t (Tree.bool (cB p132 3 10)),AV.sref (0:Nat) (AD p132 3 11) (AE p132 3 11) (AB p132 3
 11),AV.sref (1:Nat) (AD p132 3 12) (AE p132 3 12) (AB p132 3 12),AV.sref (2:Nat) (AD p132 3 13) (AE p132 3 13) (AB p132 3 13)],AA.box [AV.ptr (3:Nat) (0:Nat)],AA.row false (AF
 p132 5) (4:Nat) (oEs p132 5),AA.box [AV.sref (5:Nat) (AD p132 6 0) (AE p132 6 0) (AB p132 6 0)],AA.row false (AF p132 7) (4:Nat) (oEs p132 7),AA.box [AV.sref (7:Nat) (AD p132 8 0)
 (AE p132 8 0) (AB p132 8 0)],AA.box [],AA.box [AV.ptr (3:Nat) (0:Nat)],AA.box [],AA.box []])) none) none) none))) none) none) none) none) none) none) none) none) (again32 ([],
 [AA.row false (AF p132 0) (1:Nat) (oEs p132 0),AA.row false (AF p132 1) (1:Nat) (oEs p132 1),AA.row false (AF p132 2) (1:Nat) (oEs p132 2),AA.box [AV.t (Tree.sl (1:Nat) (cL p132 3
 0)),AV.t (Tree.sl (7:Nat) (cL p132 3 1)),AV.t (Tree.sl (4:Nat) (cL p132 3 2)),AV.t (Tree.sl (5:Nat) (cL p132 3 3)),AV.t (tI (cI p132 3 4)),AV.t (tI (cI p132 3 5)),AV.t (tI (cI p132 3 6)),AV.t
 (tI (cI p132 3 7)),AV.t (tI (cI p132 3 8)),AV.t (tI (cI p132 3 9)),AV.t (Tree.bool (cB p132 3 10)),AV.sref (0:Nat) (AD p132 3 11) (AE p132 3 11) (AB p132 3 11),AV.sref (1:Nat) (AD p132 3
 12) (AE p132 3 12) (AB p132 3 12),AV.sref (2:Nat) (AD p132 3 13) (AE p132 3 13) (AB p132 3 13)],AA.box [AV.ptr (3:Nat) (0:Nat)],AA.row false (AF p132 5) (4:Nat) (oEs p132 5),
 AA.box [AV.sref (5:Nat) (AD p132 6 0) (AE p132 6 0) (AB p132 6 0)],AA.row false (AF p132 7) (4:Nat) (oEs p132 7),AA.box [AV.sref (7:Nat) (AD p132 8 0) (AE p132 8 0) (AB p132 8
 0)]]))
noncomputable def Lb (n:Nat) (p33:List AV×Heap) (again32:(List AV×Heap)→Option (List Tree)) (p123:List AV×Heap) (again124:(List AV×Heap)→Option (List Tree)):Option (List Tree):=
 cnd (AF p123 7=AD p33 8 0) (cnd (decide (vI p123 1<((AB p33 8 0:Nat):Int))=true) (cnd (AF p123 7=AD p33 8 0∧(4:Nat)=(4:Nat)∧(0:Int)≤vI p123 1∧vI p123 1<((AB p33 8
 0:Nat):Int)) (cnd (AF p123 7=AD p33 8 0) (Option.bind (oEs p123 7)[(AE p33 8 0)+(toNat (vI p123 1))]? fun y125=>cnd (okI y125 0) (cnd (okI y125 1) (cnd (okI y125 2) (cnd (okI y125 3)
 (Option.bind (AM C n (91:Nat) [tI (vI p33 0),tI (vI p33 1),tI (vI p33 2),tI (vI p33 3),tI (gI y125 0),tI (gI y125 1),tI (gI y125 2),tI (gI y125 3)]) fun y128=>cnd (length y128 =
 (1:Nat)) (cnd (okB y128 0) (join (fun (p129:List AV×Heap)=>Um n again124 p123 p129) fun (again130:_→Option (List Tree))=>cnd ((!(gB y128 0))=true) (cnd (AF p123 7=AD p33 8 0∧
 (4:Nat)=(4:Nat)∧(0:Int)≤vI p123 0∧vI p123 0<((AB p33 8 0:Nat):Int)) (cnd (AF p123 7=AD p33 8 0∧(4:Nat)≤(4:Nat)) (Option.bind (oEs p123 7)[(AE p33 8 0)+(toNat (vI p123
 0))]? fun y131=>again130 ([AV.t (tI (w64 ((vI p123 0)+(1:Int))))],[AA.row false (AF p123 0) (1:Nat) (oEs p123 0),AA.row false (AF p123 1) (1:Nat) (oEs p123 1),AA.row false (AF p123
 2) (1:Nat) (oEs p123 2),AA.box [AV.t (Tree.sl (1:Nat) (cL p123 3 0)),AV.t (Tree.sl (7:Nat) (cL p123 3 1)),AV.t (Tree.sl (4:Nat) (cL p123 3 2)),AV.t (Tree.sl (5:Nat) (cL p123 3 3)),AV.t (tI (cI
 p123 3 4)),AV.t (tI (cI p123 3 5)),AV.t (tI (cI p123 3 6)),AV.t (tI (cI p123 3 7)),AV.t (tI (cI p123 3 8)),AV.t (tI (cI p123 3 9)),AV.t (Tree.bool (cB p123 3 10)),AV.sref (0:Nat) (AD p123 3
 11) (AE p123 3 11) (AB p123 3 11),AV.sref (1:Nat) (AD p123 3 12) (AE p123 3 12) (AB p123 3 12),AV.sref (2:Nat) (AD p123 3 13) (AE p123 3 13) (AB p123 3 13)],AA.box [AV.ptr (3:Nat)
 (0:Nat)],AA.row false (AF p123 5) (4:Nat) (oEs p123 5),AA.box [AV.sref (5:Nat) (AD p123 6 0) (AE p123 6 0) (AB p123 6 0)],AA.row false (AD p33 8 0) (4:Nat) (List.set (oEs p123 7)
 ((AE p33 8 0)+(toNat (vI p123 0))) ([tI (gI y125 0),tI (gI y125 1),tI (gI y125 2),tI (gI y125 3)]++drop (4:Nat) y131)),AA.box [AV.sref (7:Nat) (AD p123 8 0) (AE p123 8 0)
 (AB p123 8 0)],AA.box [],AA.box [AV.t (tI (gI y125 0)),AV.t (tI (gI y125 1)),AV.t (tI (gI y125 2)),AV.t (tI (gI y125 3))]])) none) none) (again130 ([AV.t (tI (vI p123 0))],[AA.row false
 (AF p123 0) (1:Nat) (oEs p123 0),AA.row false (AF p123 1) (1:Nat) (oEs p123 1),AA.row false (AF p123 2) (1:Nat) (oEs p123 2),AA.box [AV.t (Tree.sl (1:Nat) (cL p123 3 0)),AV.t (Tree.sl
 (7:Nat) (cL p123 3 1)),AV.t (Tree.sl (4:Nat) (cL p123 3 2)),AV.t (Tree.sl (5:Nat) (cL p123 3 3)),AV.t (tI (cI p123 3 4)),AV.t (tI (cI p123 3 5)),AV.t (tI (cI p123 3 6)),AV.t (tI (cI p123 3 7)),
 AV.t (tI (cI p123 3 8)),AV.t (tI (cI p123 3 9)),AV.t (Tree.bool (cB p123 3 10)),AV.sref (0:Nat) (AD p123 3 11) (AE p123 3 11) (AB p123 3 11),AV.sref (1:Nat) (AD p123 3 12) (AE p123 3 12)
 (AB p123 3 12),AV.sref (2:Nat) (AD p123 3 13) (AE p123 3 13) (AB p123 3 13)],AA.box [AV.ptr (3:Nat) (0:Nat)],AA.row false (AF p123 5) (4:Nat) (oEs p123 5),AA.box [AV.sref (5:Nat)
 (AD p123 6 0) (AE p123 6 0) (AB p123 6 0)],AA.row false (AF p123 7) (4:Nat) (oEs p123 7),AA.box [AV.sref (7:Nat) (AD p123 8 0) (AE p123 8 0) (AB p123 8 0)],AA.box [],AA.box
 [AV.t (tI (gI y125 0)),AV.t (tI (gI y125 1)),AV.t (tI (gI y125 2)),AV.t (tI (gI y125 3))]]))) none) none) none) none) none) none) none) none) (cnd (AF p123 7=AD p33 8 0∧((4:Nat)=(4:Nat)∨
 (4:Nat)=(0:Nat))) (cnd ((0:Int)≤vI p123 0∧vI p123 0≤((AB p33 8 0:Nat):Int)) (cnd (AF p123 7=AD p33 8 0∧(4:Nat)=(4:Nat)) (cnd (AD p33 8 0=AD p33 8 0∧((4:Nat)=(4:Nat)∨
 (4:Nat)=(0:Nat))) (cnd ((0:Int)≤vI p123 0∧vI p123 0≤(((length (A0 (oEs p123 7) ((AE p33 8 0)+(toNat (vI p123 0))) (replicate ((AB p33 8 0)-(toNat (vI p123 0)))
 [tI (0:Int),tI (0:Int),tI (0:Int),tI (0:Int)])))-(AE p33 8 0):Nat):Int)) (cnd (AF p123 5=AD p123 6 0∧((4:Nat)=(4:Nat)∨(4:Nat)=(0:Nat))∧(AE p123 6 0)+(AB p123 6 0)≤
 length (oEs p123 5)∧(AB p123 6 0)+(1:Nat)≤(1073741824:Nat)) (AO (fun (p132:List AV×Heap) (again133:_→Option (List Tree))=>JH n p123 p33 again32 p132 again133) n ([AV.t
 (tI (0:Int))],[AA.row false (AF p123 0) (1:Nat) (oEs p123 0),AA.row false (AF p123 1) (1:Nat) (oEs p123 1),AA.row false (AF p123 2) (1:Nat) (oEs p123 2),AA.box [AV.t (Tree.sl (1:Nat)
 (cL p123 3 0)),AV.t (Tree.sl (7:Nat) (cL p123 3 1)),AV.t (Tree.sl (4:Nat) (cL p123 3 2)),AV.t (Tree.sl (5:Nat) (cL p123 3 3)),AV.t (tI (cI p123 3 4)),AV.t (tI (cI p123 3 5)),AV.t (tI (cI p123 3
 6)),AV.t (tI (cI p123 3 7)),AV.t (tI (cI p123 3 8)),AV.t (tI (cI p123 3 9)),AV.t (Tree.bool (cB p123 3 10)),AV.sref (0:Nat) (AD p123 3 11) (AE p123 3 11) (AB p123 3 11),AV.sref (1:Nat)
 (AD p123 3 12) (AE p123 3 12) (AB p123 3 12),AV.sref (2:Nat) (AD p123 3 13) (AE p123 3 13) (AB p123 3 13)],AA.box [AV.ptr (3:Nat) (0:Nat)],AA.row false ((AD p123 6 0)+(1:Nat))
 (4:Nat) ((take (AB p123 6 0) (drop (AE p123 6 0) (oEs p123 5)))++[[tI (vI p33 0),tI (vI p33 1),tI (vI p33 2),tI (vI p33 3)]]),AA.box [AV.sref (5:Nat) ((AD p123 6 0)+(1:Nat))
 (0:Nat) ((AB p123 6 0)+(1:Nat))],AA.row false (AD p33 8 0) (4:Nat) (A0 (oEs p123 7) ((AE p33 8 0)+(toNat (vI p123 0))) (replicate ((AB p33 8 0)-(toNat (vI p123 0)))
 [tI (0:Int),tI (0:Int),tI (0:Int),tI (0:Int)])),AA.box [AV.sref (7:Nat) (AD p33 8 0) (AE p33 8 0) (toNat (vI p123 0))],AA.box [],AA.box [AV.ptr (3:Nat) (0:Nat)],AA.box []]))
 none) none) none) none) none) none)) none
noncomputable def Nr (n:Nat) (p33:List AV×Heap) (again32:(List AV×Heap)→Option (List Tree)) (p45:List AV×Heap):Option (List Tree):=
 cnd (((vI p45 0)==(-1:Int))=true) (cnd (AF p45 5=AD p45 6 0∧((4:Nat)=(4:Nat)∨(4:Nat)=(0:Nat))∧(AE p45 6 0)+(AB p45 6 0)≤length (oEs p45 5)∧(AB p45 6 0)+(1:Nat)≤
 (1073741824:Nat)) (AO (fun (p53:List AV×Heap) (again54:_→Option (List Tree))=>L16_29 n p45 p33 again32 p53 again54) n ([AV.t (tI (0:Int))],[AA.row false (AF p45 0) (1:Nat) (oEs
 p45 0),AA.row false (AF p45 1) (1:Nat) (oEs p45 1),AA.row false (AF p45 2) (1:Nat) (oEs p45 2),AA.box [AV.t (Tree.sl (1:Nat) (cL p45 3 0)),AV.t (Tree.sl (7:Nat) (cL p45 3 1)),AV.t
 (Tree.sl (4:Nat) (cL p45 3 2)),AV.t (Tree.sl (5:Nat) (cL p45 3 3)),AV.t (tI (cI p45 3 4)),AV.t (tI (cI p45 3 5)),AV.t (tI (cI p45 3 6)),AV.t (tI (cI p45 3 7)),AV.t (tI (cI p45 3 8)),AV.t (tI
 (cI p45 3 9)),AV.t (Tree.bool (cB p45 3 10)),AV.sref (0:Nat) (AD p45 3 11) (AE p45 3 11) (AB p45 3 11),AV.sref (1:Nat) (AD p45 3 12) (AE p45 3 12) (AB p45 3 12),AV.sref (2:Nat) (AD
 p45 3 13) (AE p45 3 13) (AB p45 3 13)],AA.box [AV.ptr (3:Nat) (0:Nat)],AA.row false ((AD p45 6 0)+(1:Nat)) (4:Nat) ((take (AB p45 6 0) (drop (AE p45 6 0) (oEs p45 5))) ++
 [[tI (vI p33 0),tI (vI p33 1),tI (vI p33 2),tI (vI p33 3)]]),AA.box [AV.sref (5:Nat) ((AD p45 6 0)+(1:Nat)) (0:Nat) ((AB p45 6 0)+(1:Nat))],AA.row false (AF p45 7) (4:Nat) (oEs p45
 7),AA.box [AV.sref (7:Nat) (AD p33 8 0) (AE p33 8 0) (AB p33 8 0)],AA.box [],AA.box [AV.ptr (3:Nat) (0:Nat)],AA.box []])) none) (AO (fun (p123:List AV×Heap) (again124:_→
 Option (List Tree))=>Lb n p33 again32 p123 again124) n ([AV.t (tI (vI p45 0)),AV.t (tI (w64 ((vI p45 0)+(1:Int))))],[AA.row false (AF p45 0) (1:Nat) (oEs p45 0),AA.row false (AF p45
 1) (1:Nat) (oEs p45 1),AA.row false (AF p45 2) (1:Nat) (oEs p45 2),AA.box [AV.t (Tree.sl (1:Nat) (cL p45 3 0)),AV.t (Tree.sl (7:Nat) (cL p45 3 1)),AV.t (Tree.sl (4:Nat) (cL p45 3 2)),AV.t
 (Tree.sl (5:Nat) (cL p45 3 3)),AV.t (tI (cI p45 3 4)),AV.t (tI (cI p45 3 5)),AV.t (tI (cI p45 3 6)),AV.t (tI (cI p45 3 7)),AV.t (tI (cI p45 3 8)),AV.t (tI (cI p45 3 9)),AV.t (Tree.bool (cB p45
 3 10)),AV.sref (0:Nat) (AD p45 3 11) (AE p45 3 11) (AB p45 3 11),AV.sref (1:Nat) (AD p45 3 12) (AE p45 3 12) (AB p45 3 12),AV.sref (2:Nat) (AD p45 3 13) (AE p45 3 13) (AB p45 3
 13)],AA.box [AV.ptr (3:Nat) (0:Nat)],AA.row false (AF p45 5) (4:Nat) (oEs p45 5),AA.box [AV.sref (5:Nat) (AD p45 6 0) (AE p45 6 0) (AB p45 6 0)],AA.row false (AF p45 7) (4:Nat)
 (oEs p45 7),AA.box [AV.sref (7:Nat) (AD p45 8 0) (AE p45 8 0) (AB p45 8 0)],AA.box []]))
noncomputable def Nq (n:Nat) (again32:(List AV×Heap)→Option (List Tree)) (p33:List AV×Heap):Option (List Tree):=
 join (fun (p45:List AV×Heap)=>Nr n p33 again32 p45) fun (again46:_→Option (List Tree))=>cnd (AF p33 7=AD p33 8 0) (AO (fun (p47:List AV×Heap) (again48:_→Option
 (List Tree))=>Re n p33 again46 p47 again48) n ([AV.t (tI (0:Int))],[AA.row false (AF p33 0) (1:Nat) (oEs p33 0),AA.row false (AF p33 1) (1:Nat) (oEs p33 1),AA.row false (AF p33 2)
 (1:Nat) (oEs p33 2),AA.box [AV.t (Tree.sl (1:Nat) (cL p33 3 0)),AV.t (Tree.sl (7:Nat) (cL p33 3 1)),AV.t (Tree.sl (4:Nat) (cL p33 3 2)),AV.t (Tree.sl (5:Nat) (cL p33 3 3)),AV.t (tI (cI p33 3
 4)),AV.t (tI (cI p33 3 5)),AV.t (tI (cI p33 3 6)),AV.t (tI (cI p33 3 7)),AV.t (tI (cI p33 3 8)),AV.t (tI (cI p33 3 9)),AV.t (Tree.bool (cB p33 3 10)),AV.sref (0:Nat) (AD p33 3 11) (AE p33 3
 11) (AB p33 3 11),AV.sref (1:Nat) (AD p33 3 12) (AE p33 3 12) (AB p33 3 12),AV.sref (2:Nat) (AD p33 3 13) (AE p33 3 13) (AB p33 3 13)],AA.box [AV.ptr (3:Nat) (0:Nat)],AA.row
 false (AF p33 5) (4:Nat) (oEs p33 5),AA.box [AV.sref (5:Nat) (AD p33 6 0) (AE p33 6 0) (AB p33 6 0)],AA.row false (AF p33 7) (4:Nat) (oEs p33 7),AA.box [AV.sref (7:Nat) (AD p33 8
 0) (AE p33 8 0) (AB p33 8 0)],AA.box []])) none
noncomputable def L16_58 (n:Nat) (y220:List Tree) (y216:List Tree) (y206:List Tree) (y219:List Tree) (p207:List AV×Heap) (again218:(List AV×Heap)→Option (List Tree)) (p221:List AV×Heap) (again222:(List AV×Heap)→Option (List Tree)):Option (List Tree):=
 cnd (decide (vI p221 0<((length (gL y220 0):Nat):Int))=true) (cnd ((2:Nat)=(2:Nat)∧(0:Int)≤vI p221 0) (Option.bind (gL y220 0)[toNat (vI p221 0)]? fun y223=>cnd (okI y223 0) (cnd
 (okI y223 1) (cnd (decide (w64 ((if (if gI y216 0>gI y206 3 then gI y216 0 else gI y206 3)>gI y223 0 then (if gI y216 0>gI y206 3 then gI y216 0 else gI y206 3) else gI y223 0)+(gI y219 0))≤
 gI y223 1)=true) (cnd ((7:Nat)=(7:Nat)∧(0:Int)≤vI p207 0) (Option.bind (cL p221 3 1)[toNat (vI p207 0)]? fun y224=>cnd (okI y224 5) (again218 ([AV.t (tI (vI p207 0)),AV.t (tI (if (if gI
 y216 0>gI y206 3 then gI y216 0 else gI y206 3)>gI y223 0 then (if gI y216 0>gI y206 3 then gI y216 0 else gI y206 3) else gI y223 0)),AV.t (tI (w64 ((if (if gI y216 0>gI y206 3 then gI y216
 0 else gI y206 3)>gI y223 0 then (if gI y216 0>gI y206 3 then gI y216 0 else gI y206 3) else gI y223 0)+(gI y219 0)))),AV.t (tI (w64 ((w64 ((if (if gI y216 0>gI y206 3 then gI y216 0 else gI
 y206 3)>gI y223 0 then (if gI y216 0>gI y206 3 then gI y216 0 else gI y206 3) else gI y223 0)+(gI y219 0)))+(gI y224 5)))),AV.t (Tree.bool true)],[AA.row false (AF p221 0) (1:Nat) (oEs
 p221 0),AA.row false (AF p221 1) (1:Nat) (oEs p221 1),AA.row false (AF p221 2) (1:Nat) (oEs p221 2),AA.box [AV.t (Tree.sl (1:Nat) (cL p221 3 0)),AV.t (Tree.sl (7:Nat) (cL p221 3 1)),
 AV.t (Tree.sl (4:Nat) (cL p221 3 2)),AV.t (Tree.sl (5:Nat) (cL p221 3 3)),AV.t (tI (cI p221 3 4)),AV.t (tI (cI p221 3 5)),AV.t (tI (cI p221 3 6)),AV.t (tI (cI p221 3 7)),AV.t (tI (cI p221 3 8)),
 AV.t (tI (cI p221 3 9)),AV.t (Tree.bool (cB p221 3 10)),AV.sref (0:Nat) (AD p221 3 11) (AE p221 3 11) (AB p221 3 11),AV.sref (1:Nat) (AD p221 3 12) (AE p221 3 12) (AB p221 3 12),
 AV.sref (2:Nat) (AD p221 3 13) (AE p221 3 13) (AB p221 3 13)],AA.box [AV.ptr (3:Nat) (0:Nat)],AA.row false (AF p221 5) (4:Nat) (oEs p221 5),AA.box [AV.sref (5:Nat) (AD p221 6 0)
 (AE p221 6 0) (AB p221 6 0)],AA.row false (AF p221 7) (4:Nat) (oEs p221 7),AA.box [AV.sref (7:Nat) (AD p221 8 0) (AE p221 8 0) (AB p221 8 0)],AA.box [AV.ptr (3:Nat) (0:Nat)],
 AA.box [AV.t (tI (cI p221 10 0))],AA.box [AV.t (Tree.bool (cB p221 11 0))],AA.box [],AA.box [AV.ptr (3:Nat) (0:Nat)],AA.box [],AA.box [],AA.box []])) none) none) (again222 ([AV.t
 (tI (w64 ((vI p221 0)+(1:Int))))],[AA.row false (AF p221 0) (1:Nat) (oEs p221 0),AA.row false (AF p221 1) (1:Nat) (oEs p221 1),AA.row false (AF p221 2) (1:Nat) (oEs p221 2),AA.box
 [AV.t (Tree.sl (1:Nat) (cL p221 3 0)),AV.t (Tree.sl (7:Nat) (cL p221 3 1)),AV.t (Tree.sl (4:Nat) (cL p221 3 2)),AV.t (Tree.sl (5:Nat) (cL p221 3 3)),AV.t (tI (cI p221 3 4)),AV.t (tI (cI p221 3
 5)),AV.t (tI (cI p221 3 6)),AV.t (tI (cI p221 3 7)),AV.t (tI (cI p221 3 8)),AV.t (tI (cI p221 3 9)),AV.t (Tree.bool (cB p221 3 10)),AV.sref (0:Nat) (AD p221 3 11) (AE p221 3 11) (AB p221 3
 11),AV.sref (1:Nat) (AD p221 3 12) (AE p221 3 12) (AB p221 3 12),AV.sref (2:Nat) (AD p221 3 13) (AE p221 3 13) (AB p221 3 13)],AA.box [AV.ptr (3:Nat) (0:Nat)],AA.row false (AF
 p221 5) (4:Nat) (oEs p221 5),AA.box [AV.sref (5:Nat) (AD p221 6 0) (AE p221 6 0) (AB p221 6 0)],AA.row false (AF p221 7) (4:Nat) (oEs p221 7),AA.box [AV.sref (7:Nat) (AD p221 8 0)
 (AE p221 8 0) (AB p221 8 0)],AA.box [AV.ptr (3:Nat) (0:Nat)],AA.box [AV.t (tI (cI p221 10 0))],AA.box [AV.t (Tree.bool (cB p221 11 0))],AA.box [],AA.box [AV.ptr (3:Nat) (0:Nat)],
 AA.box [],AA.box [],AA.box [],AA.box [AV.t (tI (cI p221 17 0)),AV.t (tI (cI p221 17 1)),AV.t (tI (cI p221 17 2)),AV.t (tI (cI p221 17 3))]]))) none) none) none) (again218 ([AV.t (tI
 (0:Int)),AV.t (tI (0:Int)),AV.t (tI (0:Int)),AV.t (tI (0:Int)),AV.t (Tree.bool false)],[AA.row false (AF p221 0) (1:Nat) (oEs p221 0),AA.row false (AF p221 1) (1:Nat) (oEs p221 1),
 AA.row false (AF p221 2) (1:Nat) (oEs p221 2),AA.box [AV.t (Tree.sl (1:Nat) (cL p221 3 0)),AV.t (Tree.sl (7:Nat) (cL p221 3 1)),AV.t (Tree.sl (4:Nat) (cL p221 3 2)),AV.t (Tree.sl (5:Nat) (cL
 p221 3 3)),AV.t (tI (cI p221 3 4)),AV.t (tI (cI p221 3 5)),AV.t (tI (cI p221 3 6)),AV.t (tI (cI p221 3 7)),AV.t (tI (cI p221 3 8)),AV.t (tI (cI p221 3 9)),AV.t (Tree.bool (cB p221 3 10)),
 AV.sref (0:Nat) (AD p221 3 11) (AE p221 3 11) (AB p221 3 11),AV.sref (1:Nat) (AD p221 3 12) (AE p221 3 12) (AB p221 3 12),AV.sref (2:Nat) (AD p221 3 13) (AE p221 3 13) (AB p221 3
 13)],AA.box [AV.ptr (3:Nat) (0:Nat)],AA.row false (AF p221 5) (4:Nat) (oEs p221 5),AA.box [AV.sref (5:Nat) (AD p221 6 0) (AE p221 6 0) (AB p221 6 0)],AA.row false (AF p221 7)
 (4:Nat) (oEs p221 7),AA.box [AV.sref (7:Nat) (AD p221 8 0) (AE p221 8 0) (AB p221 8 0)],AA.box [AV.ptr (3:Nat) (0:Nat)],AA.box [AV.t (tI (cI p221 10 0))],AA.box [AV.t (Tree.bool (cB
 p221 11 0))],AA.box [],AA.box [AV.ptr (3:Nat) (0:Nat)],AA.box [],AA.box [],AA.box []]))
noncomputable def J16_59 (n:Nat) (y206:List Tree) (again226:(List AV×Heap)→Option (List Tree)) (p217:List AV×Heap) (y211:List Tree) (y216:List Tree) (p227:List AV×Heap):Option (List Tree):=
 cnd (decide (vI p227 0>gI y206 2)=true) (again226 ([AV.t (Tree.bool true)],[AA.row false (AF p227 0) (1:Nat) (oEs p227 0),AA.row false (AF p227 1) (1:Nat) (oEs p227 1),AA.row false
 (AF p227 2) (1:Nat) (oEs p227 2),AA.box [AV.t (Tree.sl (1:Nat) (cL p227 3 0)),AV.t (Tree.sl (7:Nat) (cL p227 3 1)),AV.t (Tree.sl (4:Nat) (cL p227 3 2)),AV.t (Tree.sl (5:Nat) (cL p227 3 3)),
 AV.t (tI (cI p227 3 4)),AV.t (tI (cI p227 3 5)),AV.t (tI (cI p227 3 6)),AV.t (tI (cI p227 3 7)),AV.t (tI (cI p227 3 8)),AV.t (tI (cI p227 3 9)),AV.t (Tree.bool (cB p227 3 10)),AV.sref (0:Nat)
 (AD p227 3 11) (AE p227 3 11) (AB p227 3 11),AV.sref (1:Nat) (AD p227 3 12) (AE p227 3 12) (AB p227 3 12),AV.sref (2:Nat) (AD p227 3 13) (AE p227 3 13) (AB p227 3 13)],AA.box
 [AV.ptr (3:Nat) (0:Nat)],AA.row false (AF p227 5) (4:Nat) (oEs p227 5),AA.box [AV.sref (5:Nat) (AD p227 6 0) (AE p227 6 0) (AB p227 6 0)],AA.row false (AF p227 7) (4:Nat) (oEs p227
 7),AA.box [AV.sref (7:Nat) (AD p227 8 0) (AE p227 8 0) (AB p227 8 0)],AA.box [AV.ptr (3:Nat) (0:Nat)],AA.box [AV.t (tI (cI p227 10 0))],AA.box [AV.t (Tree.bool (cB p227 11 0))],
 AA.box [],AA.box [AV.ptr (3:Nat) (0:Nat)],AA.box [],AA.box [],AA.box [],AA.box []])) (cnd (decide (vI p217 3>cI p227 3 8)=true) (again226 ([AV.t (Tree.bool true)],[AA.row false
 (AF p227 0) (1:Nat) (oEs p227 0),AA.row false (AF p227 1) (1:Nat) (oEs p227 1),AA.row false (AF p227 2) (1:Nat) (oEs p227 2),AA.box [AV.t (Tree.sl (1:Nat) (cL p227 3 0)),AV.t (Tree.sl
 (7:Nat) (cL p227 3 1)),AV.t (Tree.sl (4:Nat) (cL p227 3 2)),AV.t (Tree.sl (5:Nat) (cL p227 3 3)),AV.t (tI (cI p227 3 4)),AV.t (tI (cI p227 3 5)),AV.t (tI (cI p227 3 6)),AV.t (tI (cI p227 3 7)),
 AV.t (tI (cI p227 3 8)),AV.t (tI (cI p227 3 9)),AV.t (Tree.bool (cB p227 3 10)),AV.sref (0:Nat) (AD p227 3 11) (AE p227 3 11) (AB p227 3 11),AV.sref (1:Nat) (AD p227 3 12) (AE p227 3 12)
 (AB p227 3 12),AV.sref (2:Nat) (AD p227 3 13) (AE p227 3 13) (AB p227 3 13)],AA.box [AV.ptr (3:Nat) (0:Nat)],AA.row false (AF p227 5) (4:Nat) (oEs p227 5),AA.box [AV.sref (5:Nat)
 (AD p227 6 0) (AE p227 6 0) (AB p227 6 0)],AA.row false (AF p227 7) (4:Nat) (oEs p227 7),AA.box [AV.sref (7:Nat) (AD p227 8 0) (AE p227 8 0) (AB p227 8 0)],AA.box [AV.ptr
 (3:Nat) (0:Nat)],AA.box [AV.t (tI (cI p227 10 0))],AA.box [AV.t (Tree.bool (cB p227 11 0))],AA.box [],AA.box [AV.ptr (3:Nat) (0:Nat)],AA.box [],AA.box [],AA.box [],AA.box []]))
 (cnd (((gI y211 1) != (cI p227 3 5))=true) (again226 ([AV.t (Tree.bool (decide (vI p217 3≥gI y216 1)))],[AA.row false (AF p227 0) (1:Nat) (oEs p227 0),AA.row false (AF p227 1) (1:Nat)
 (oEs p227 1),AA.row false (AF p227 2) (1:Nat) (oEs p227 2),AA.box [AV.t (Tree.sl (1:Nat) (cL p227 3 0)),AV.t (Tree.sl (7:Nat) (cL p227 3 1)),AV.t (Tree.sl (4:Nat) (cL p227 3 2)),AV.t
 (Tree.sl (5:Nat) (cL p227 3 3)),AV.t (tI (cI p227 3 4)),AV.t (tI (cI p227 3 5)),AV.t (tI (cI p227 3 6)),AV.t (tI (cI p227 3 7)),AV.t (tI (cI p227 3 8)),AV.t (tI (cI p227 3 9)),AV.t (Tree.bool
 (cB p227 3 10)),AV.sref (0:Nat) (AD p227 3 11) (AE p227 3 11) (AB p227 3 11),AV.sref (1:Nat) (AD p227 3 12) (AE p227 3 12) (AB p227 3 12),AV.sref (2:Nat) (AD p227 3 13) (AE p227 3
 13) (AB p227 3 13)],AA.box [AV.ptr (3:Nat) (0:Nat)],AA.row false (AF p227 5) (4:Nat) (oEs p227 5),AA.box [AV.sref (5:Nat) (AD p227 6 0) (AE p227 6 0) (AB p227 6 0)],AA.row false
 (AF p227 7) (4:Nat) (oEs p227 7),AA.box [AV.sref (7:Nat) (AD p227 8 0) (AE p227 8 0) (AB p227 8 0)],AA.box [AV.ptr (3:Nat) (0:Nat)],AA.box [AV.t (tI (cI p227 10 0))],AA.box [AV.t
 (Tree.bool (cB p227 11 0))],AA.box [],AA.box [AV.ptr (3:Nat) (0:Nat)],AA.box [],AA.box [],AA.box [],AA.box []])) (again226 ([AV.t (Tree.bool false)],[AA.row false (AF p227 0)
 (1:Nat) (oEs p227 0),AA.row false (AF p227 1) (1:Nat) (oEs p227 1),AA.row false (AF p227 2) (1:Nat) (oEs p227 2),AA.box [AV.t (Tree.sl (1:Nat) (cL p227 3 0)),AV.t (Tree.sl (7:Nat) (cL
 p227 3 1)),AV.t (Tree.sl (4:Nat) (cL p227 3 2)),AV.t (Tree.sl (5:Nat) (cL p227 3 3)),AV.t (tI (cI p227 3 4)),AV.t (tI (cI p227 3 5)),AV.t (tI (cI p227 3 6)),AV.t (tI (cI p227 3 7)),AV.t (tI (cI
 p227 3 8)),AV.t (tI (cI p227 3 9)),AV.t (Tree.bool (cB p227 3 10)),AV.sref (0:Nat) (AD p227 3 11) (AE p227 3 11) (AB p227 3 11),AV.sref (1:Nat) (AD p227 3 12) (AE p227 3 12) (AB p227 3
 12),AV.sref (2:Nat) (AD p227 3 13) (AE p227 3 13) (AB p227 3 13)],AA.box [AV.ptr (3:Nat) (0:Nat)],AA.row false (AF p227 5) (4:Nat) (oEs p227 5),AA.box [AV.sref (5:Nat) (AD p227 6
 0) (AE p227 6 0) (AB p227 6 0)],AA.row false (AF p227 7) (4:Nat) (oEs p227 7),AA.box [AV.sref (7:Nat) (AD p227 8 0) (AE p227 8 0) (AB p227 8 0)],AA.box [AV.ptr (3:Nat) (0:Nat)],
 AA.box [AV.t (tI (cI p227 10 0))],AA.box [AV.t (Tree.bool (cB p227 11 0))],AA.box [],AA.box [AV.ptr (3:Nat) (0:Nat)],AA.box [],AA.box [],AA.box [],AA.box []]))))
noncomputable def J16_60 (n:Nat) (again215:(List AV×Heap)→Option (List Tree)) (p232:List AV×Heap):Option (List Tree):=
 again215 ([],[AA.row false (AF p232 0) (1:Nat) (oEs p232 0),AA.row false (AF p232 1) (1:Nat) (oEs p232 1),AA.row false (AF p232 2) (1:Nat) (oEs p232 2),AA.box [AV.t (Tree.sl (1:Nat)
 (cL p232 3 0)),AV.t (Tree.sl (7:Nat) (cL p232 3 1)),AV.t (Tree.sl (4:Nat) (cL p232 3 2)),AV.t (Tree.sl (5:Nat) (cL p232 3 3)),AV.t (tI (cI p232 3 4)),AV.t (tI (cI p232 3 5)),AV.t (tI (cI p232 3
 6)),AV.t (tI (cI p232 3 7)),AV.t (tI (cI p232 3 8)),AV.t (tI (cI p232 3 9)),AV.t (Tree.bool (cB p232 3 10)),AV.sref (0:Nat) (AD p232 3 11) (AE p232 3 11) (AB p232 3 11),AV.sref (1:Nat)
 (AD p232 3 12) (AE p232 3 12) (AB p232 3 12),AV.sref (2:Nat) (AD p232 3 13) (AE p232 3 13) (AB p232 3 13)],AA.box [AV.ptr (3:Nat) (0:Nat)],AA.row false (AF p232 5) (4:Nat) (oEs
 p232 5),AA.box [AV.sref (5:Nat) (AD p232 6 0) (AE p232 6 0) (AB p232 6 0)],AA.row false (AF p232 7) (4:Nat) (oEs p232 7),AA.box [AV.sref (7:Nat) (AD p232 8 0) (AE p232 8 0) (AB
 p232 8 0)],AA.box [AV.ptr (3:Nat) (0:Nat)],AA.box [AV.t (tI (cI p232 10 0))],AA.box [AV.t (Tree.bool (cB p232 11 0))],AA.box [],AA.box [AV.ptr (3:Nat) (0:Nat)],AA.box [],AA.box
 []])
noncomputable def J16_61 (n:Nat) (again215:(List AV×Heap)→Option (List Tree)) (p217:List AV×Heap) (p230:List AV×Heap):Option (List Tree):=
 join (fun (p232:List AV×Heap)=>J16_60 n again215 p232) fun (again233:_→Option (List Tree))=>cnd (vB p230 0=true) (again233 ([],[AA.row false (AF p230 0) (1:Nat) (oEs p230 0),
 AA.row false (AF p230 1) (1:Nat) (oEs p230 1),AA.row false (AF p230 2) (1:Nat) (oEs p230 2),AA.box [AV.t (Tree.sl (1:Nat) (cL p230 3 0)),AV.t (Tree.sl (7:Nat) (cL p230 3 1)),AV.t
 (Tree.sl (4:Nat) (cL p230 3 2)),AV.t (Tree.sl (5:Nat) (cL p230 3 3)),AV.t (tI (cI p230 3 4)),AV.t (tI (cI p230 3 5)),AV.t (tI (cI p230 3 6)),AV.t (tI (cI p230 3 7)),AV.t (tI (cI p230 3 8)),AV.t
 (tI (cI p230 3 9)),AV.t (Tree.bool (cB p230 3 10)),AV.sref (0:Nat) (AD p230 3 11) (AE p230 3 11) (AB p230 3 11),AV.sref (1:Nat) (AD p230 3 12) (AE p230 3 12) (AB p230 3 12),AV.sref
 (2:Nat) (AD p230 3 13) (AE p230 3 13) (AB p230 3 13)],AA.box [AV.ptr (3:Nat) (0:Nat)],AA.row false (AF p230 5) (4:Nat) (oEs p230 5),AA.box [AV.sref (5:Nat) (AD p230 6 0) (AE p230
 6 0) (AB p230 6 0)],AA.row false (AF p230 7) (4:Nat) (oEs p230 7),AA.box [AV.sref (7:Nat) (AD p230 8 0) (AE p230 8 0) (AB p230 8 0)],AA.box [AV.ptr (3:Nat) (0:Nat)],AA.box [AV.t
 (tI (vI p217 3))],AA.box [AV.t (Tree.bool true)],AA.box [],AA.box [AV.ptr (3:Nat) (0:Nat)],AA.box [],AA.box [],AA.box [],AA.box [],AA.box []])) (again233 ([],[AA.row false
 (AF p230 0) (1:Nat) (oEs p230 0),AA.row false (AF p230 1) (1:Nat) (oEs p230 1),AA.row false (AF p230 2) (1:Nat) (oEs p230 2),AA.box [AV.t (Tree.sl (1:Nat) (cL p230 3 0)),AV.t (Tree.sl
 (7:Nat) (cL p230 3 1)),AV.t (Tree.sl (4:Nat) (cL p230 3 2)),AV.t (Tree.sl (5:Nat) (cL p230 3 3)),AV.t (tI (cI p230 3 4)),AV.t (tI (cI p230 3 5)),AV.t (tI (cI p230 3 6)),AV.t (tI (cI p230 3 7)),
 AV.t (tI (cI p230 3 8)),AV.t (tI (cI p230 3 9)),AV.t (Tree.bool (cB p230 3 10)),AV.sref (0:Nat) (AD p230 3 11) (AE p230 3 11) (AB p230 3 11),AV.sref (1:Nat) (AD p230 3 12) (AE p230 3 12)
 (AB p230 3 12),AV.sref (2:Nat) (AD p230 3 13) (AE p230 3 13) (AB p230 3 13)],AA.box [AV.ptr (3:Nat) (0:Nat)],AA.row false (AF p230 5) (4:Nat) (oEs p230 5),AA.box [AV.sref (5:Nat)
 (AD p230 6 0) (AE p230 6 0) (AB p230 6 0)],AA.row false (AF p230 7) (4:Nat) (oEs p230 7),AA.box [AV.sref (7:Nat) (AD p230 8 0) (AE p230 8 0) (AB p230 8 0)],AA.box [AV.ptr
 (3:Nat) (0:Nat)],AA.box [AV.t (tI (cI p230 10 0))],AA.box [AV.t (Tree.bool (cB p230 11 0))],AA.box [],AA.box [AV.ptr (3:Nat) (0:Nat)],AA.box [],AA.box [],AA.box [],AA.box [],
 AA.box []]))
noncomputable def J16_62 (n:Nat) (again215:(List AV×Heap)→Option (List Tree)) (p217:List AV×Heap) (y211:List Tree) (p225:List AV×Heap):Option (List Tree):=
 cnd (vB p225 0=true) (again215 ([],[AA.row false (AF p225 0) (1:Nat) (oEs p225 0),AA.row false (AF p225 1) (1:Nat) (oEs p225 1),AA.row false (AF p225 2) (1:Nat) (oEs p225 2),AA.box
 [AV.t (Tree.sl (1:Nat) (cL p225 3 0)),AV.t (Tree.sl (7:Nat) (cL p225 3 1)),AV.t (Tree.sl (4:Nat) (cL p225 3 2)),AV.t (Tree.sl (5:Nat) (cL p225 3 3)),AV.t (tI (cI p225 3 4)),AV.t (tI (cI p225 3
 5)),AV.t (tI (cI p225 3 6)),AV.t (tI (cI p225 3 7)),AV.t (tI (cI p225 3 8)),AV.t (tI (cI p225 3 9)),AV.t (Tree.bool (cB p225 3 10)),AV.sref (0:Nat) (AD p225 3 11) (AE p225 3 11) (AB p225 3
 11),AV.sref (1:Nat) (AD p225 3 12) (AE p225 3 12) (AB p225 3 12),AV.sref (2:Nat) (AD p225 3 13) (AE p225 3 13) (AB p225 3 13)],AA.box [AV.ptr (3:Nat) (0:Nat)],AA.row false (AF
 p225 5) (4:Nat) (oEs p225 5),AA.box [AV.sref (5:Nat) (AD p225 6 0) (AE p225 6 0) (AB p225 6 0)],AA.row false (AF p225 7) (4:Nat) (oEs p225 7),AA.box [AV.sref (7:Nat) (AD p225 8 0)
 (AE p225 8 0) (AB p225 8 0)],AA.box [AV.ptr (3:Nat) (0:Nat)],AA.box [AV.t (tI (cI p225 10 0))],AA.box [AV.t (Tree.bool (cB p225 11 0))],AA.box [],AA.box [AV.ptr (3:Nat) (0:Nat)],
 AA.box [],AA.box []])) (join (fun (p230:List AV×Heap)=>J16_61 n again215 p217 p230) fun (again231:_→Option (List Tree))=>cnd (((gI y211 1)==(cI p225 3 5))=true) (cnd ((!(cB p225
 11 0))=true) (again231 ([AV.t (Tree.bool true)],[AA.row false (AF p225 0) (1:Nat) (oEs p225 0),AA.row false (AF p225 1) (1:Nat) (oEs p225 1),AA.row false (AF p225 2) (1:Nat) (oEs p225
 2),AA.box [AV.t (Tree.sl (1:Nat) (cL p225 3 0)),AV.t (Tree.sl (7:Nat) (cL p225 3 1)),AV.t (Tree.sl (4:Nat) (cL p225 3 2)),AV.t (Tree.sl (5:Nat) (cL p225 3 3)),AV.t (tI (cI p225 3 4)),AV.t (tI
 (cI p225 3 5)),AV.t (tI (cI p225 3 6)),AV.t (tI (cI p225 3 7)),AV.t (tI (cI p225 3 8)),AV.t (tI (cI p225 3 9)),AV.t (Tree.bool (cB p225 3 10)),AV.sref (0:Nat) (AD p225 3 11) (AE p225 3 11)
 (AB p225 3 11),AV.sref (1:Nat) (AD p225 3 12) (AE p225 3 12) (AB p225 3 12),AV.sref (2:Nat) (AD p225 3 13) (AE p225 3 13) (AB p225 3 13)],AA.box [AV.ptr (3:Nat) (0:Nat)],AA.row
 false (AF p225 5) (4:Nat) (oEs p225 5),AA.box [AV.sref (5:Nat) (AD p225 6 0) (AE p225 6 0) (AB p225 6 0)],AA.row false (AF p225 7) (4:Nat) (oEs p225 7),AA.box [AV.sref (7:Nat) (AD
 p225 8 0) (AE p225 8 0) (AB p225 8 0)],AA.box [AV.ptr (3:Nat) (0:Nat)],AA.box [AV.t (tI (cI p225 10 0))],AA.box [AV.t (Tree.bool (cB p225 11 0))],AA.box [],AA.box [AV.ptr (3:Nat)
 (0:Nat)],AA.box [],AA.box [],AA.box [],AA.box [],AA.box []])) (again231 ([AV.t (Tree.bool (decide (vI p217 3<cI p225 10 0)))],[AA.row false (AF p225 0) (1:Nat) (oEs p225 0),
 AA.row false (AF p225 1) (1:Nat) (oEs p225 1),AA.row false (AF p225 2) (1:Nat) (oEs p225 2),AA.box [AV.t (Tree.sl (1:Nat) (cL p225 3 0)),AV.t (Tree.sl (7:Nat) (cL p225 3 1)),AV.t
 (Tree.sl (4:Nat) (cL p225 3 2)),AV.t (Tree.sl (5:Nat) (cL p225 3 3)),AV.t (tI (cI p225 3 4)),AV.t (tI (cI p225 3 5)),AV.t (tI (cI p225 3 6)),AV.t (tI (cI p225 3 7)),AV.t (tI (cI p225 3 8)),AV.t
 (tI (cI p225 3 9)),AV.t (Tree.bool (cB p225 3 10)),AV.sref (0:Nat) (AD p225 3 11) (AE p225 3 11) (AB p225 3 11),AV.sref (1:Nat) (AD p225 3 12) (AE p225 3 12) (AB p225 3 12),AV.sref
 (2:Nat) (AD p225 3 13) (AE p225 3 13) (AB p225 3 13)],AA.box [AV.ptr (3:Nat) (0:Nat)],AA.row false (AF p225 5) (4:Nat) (oEs p225 5),AA.box [AV.sref (5:Nat) (AD p225 6 0) (AE p225
 6 0) (AB p225 6 0)],AA.row false (AF p225 7) (4:Nat) (oEs p225 7),AA.box [AV.sref (7:Nat) (AD p225 8 0) (AE p225 8 0) (AB p225 8 0)],AA.box [AV.ptr (3:Nat) (0:Nat)],AA.box [AV.t
 (tI (cI p225 10 0))],AA.box [AV.t (Tree.bool (cB p225 11 0))],AA.box [],AA.box [AV.ptr (3:Nat) (0:Nat)],AA.box [],AA.box [],AA.box [],AA.box [],AA.box []]))) (again231 ([AV.t
 (Tree.bool false)],[AA.row false (AF p225 0) (1:Nat) (oEs p225 0),AA.row false (AF p225 1) (1:Nat) (oEs p225 1),AA.row false (AF p225 2) (1:Nat) (oEs p225 2),AA.box [AV.t (Tree.sl
 (1:Nat) (cL p225 3 0)),AV.t (Tree.sl (7:Nat) (cL p225 3 1)),AV.t (Tree.sl (4:Nat) (cL p225 3 2)),AV.t (Tree.sl (5:Nat) (cL p225 3 3)),AV.t (tI (cI p225 3 4)),AV.t (tI (cI p225 3 5)),AV.t (tI (cI
 p225 3 6)),AV.t (tI (cI p225 3 7)),AV.t (tI (cI p225 3 8)),AV.t (tI (cI p225 3 9)),AV.t (Tree.bool (cB p225 3 10)),AV.sref (0:Nat) (AD p225 3 11) (AE p225 3 11) (AB p225 3 11),AV.sref
 (1:Nat) (AD p225 3 12) (AE p225 3 12) (AB p225 3 12),AV.sref (2:Nat) (AD p225 3 13) (AE p225 3 13) (AB p225 3 13)],AA.box [AV.ptr (3:Nat) (0:Nat)],AA.row false (AF p225 5) (4:Nat)
 (oEs p225 5),AA.box [AV.sref (5:Nat) (AD p225 6 0) (AE p225 6 0) (AB p225 6 0)],AA.row false (AF p225 7) (4:Nat) (oEs p225 7),AA.box [AV.sref (7:Nat) (AD p225 8 0) (AE p225 8 0)
 (AB p225 8 0)],AA.box [AV.ptr (3:Nat) (0:Nat)],AA.box [AV.t (tI (cI p225 10 0))],AA.box [AV.t (Tree.bool (cB p225 11 0))],AA.box [],AA.box [AV.ptr (3:Nat) (0:Nat)],AA.box [],
 AA.box [],AA.box [],AA.box [],AA.box []])))
noncomputable def J16_63 (n:Nat) (again215:(List AV×Heap)→Option (List Tree)) (y211:List Tree) (y206:List Tree) (y216:List Tree) (p217:List AV×Heap):Option (List Tree):=
 join (fun (p225:List AV×Heap)=>J16_62 n again215 p217 y211 p225) fun (again226:_→Option (List Tree))=>cnd ((!(vB p217 4))=true) (again226 ([AV.t (Tree.bool true)],[AA.row false (AF
 p217 0) (1:Nat) (oEs p217 0),AA.row false (AF p217 1) (1:Nat) (oEs p217 1),AA.row false (AF p217 2) (1:Nat) (oEs p217 2),AA.box [AV.t (Tree.sl (1:Nat) (cL p217 3 0)),AV.t (Tree.sl
 (7:Nat) (cL p217 3 1)),AV.t (Tree.sl (4:Nat) (cL p217 3 2)),AV.t (Tree.sl (5:Nat) (cL p217 3 3)),AV.t (tI (cI p217 3 4)),AV.t (tI (cI p217 3 5)),AV.t (tI (cI p217 3 6)),AV.t (tI (cI p217 3 7)),
 AV.t (tI (cI p217 3 8)),AV.t (tI (cI p217 3 9)),AV.t (Tree.bool (cB p217 3 10)),AV.sref (0:Nat) (AD p217 3 11) (AE p217 3 11) (AB p217 3 11),AV.sref (1:Nat) (AD p217 3 12) (AE p217 3 12)
 (AB p217 3 12),AV.sref (2:Nat) (AD p217 3 13) (AE p217 3 13) (AB p217 3 13)],AA.box [AV.ptr (3:Nat) (0:Nat)],AA.row false (AF p217 5) (4:Nat) (oEs p217 5),AA.box [AV.sref (5:Nat)
 (AD p217 6 0) (AE p217 6 0) (AB p217 6 0)],AA.row false (AF p217 7) (4:Nat) (oEs p217 7),AA.box [AV.sref (7:Nat) (AD p217 8 0) (AE p217 8 0) (AB p217 8 0)],AA.box [AV.ptr
 (3:Nat) (0:Nat)],AA.box [AV.t (tI (cI p217 10 0))],AA.box [AV.t (Tree.bool (cB p217 11 0))],AA.box [],AA.box [AV.ptr (3:Nat) (0:Nat)],AA.box [],AA.box [],AA.box [],AA.box []]))
 (join (fun (p227:List AV×Heap)=>J16_59 n y206 again226 p217 y211 y216 p227) fun (again228:_→Option (List Tree))=>cnd (cB p217 3 10=true) (cnd ((7:Nat)=(7:Nat)∧(0:Int)≤vI p217 0)
 (Option.bind (cL p217 3 1)[toNat (vI p217 0)]? fun y229=>cnd (okI y229 5) (again228 ([AV.t (tI (w64 ((vI p217 2)+(w64 ((2:Int)*(gI y229 5))))))],[AA.row false (AF p217 0) (1:Nat) (oEs
 p217 0),AA.row false (AF p217 1) (1:Nat) (oEs p217 1),AA.row false (AF p217 2) (1:Nat) (oEs p217 2),AA.box [AV.t (Tree.sl (1:Nat) (cL p217 3 0)),AV.t (Tree.sl (7:Nat) (cL p217 3 1)),
 AV.t (Tree.sl (4:Nat) (cL p217 3 2)),AV.t (Tree.sl (5:Nat) (cL p217 3 3)),AV.t (tI (cI p217 3 4)),AV.t (tI (cI p217 3 5)),AV.t (tI (cI p217 3 6)),AV.t (tI (cI p217 3 7)),AV.t (tI (cI p217 3 8)),
 AV.t (tI (cI p217 3 9)),AV.t (Tree.bool (cB p217 3 10)),AV.sref (0:Nat) (AD p217 3 11) (AE p217 3 11) (AB p217 3 11),AV.sref (1:Nat) (AD p217 3 12) (AE p217 3 12) (AB p217 3 12),
 AV.sref (2:Nat) (AD p217 3 13) (AE p217 3 13) (AB p217 3 13)],AA.box [AV.ptr (3:Nat) (0:Nat)],AA.row false (AF p217 5) (4:Nat) (oEs p217 5),AA.box [AV.sref (5:Nat) (AD p217 6 0)
 (AE p217 6 0) (AB p217 6 0)],AA.row false (AF p217 7) (4:Nat) (oEs p217 7),AA.box [AV.sref (7:Nat) (AD p217 8 0) (AE p217 8 0) (AB p217 8 0)],AA.box [AV.ptr (3:Nat) (0:Nat)],
 AA.box [AV.t (tI (cI p217 10 0))],AA.box [AV.t (Tree.bool (cB p217 11 0))],AA.box [],AA.box [AV.ptr (3:Nat) (0:Nat)],AA.box [],AA.box [],AA.box [],AA.box []])) none) none)
 (again228 ([AV.t (tI (vI p217 2))],[AA.row false (AF p217 0) (1:Nat) (oEs p217 0),AA.row false (AF p217 1) (1:Nat) (oEs p217 1),AA.row false (AF p217 2) (1:Nat) (oEs p217 2),AA.box
 [AV.t (Tree.sl (1:Nat) (cL p217 3 0)),AV.t (Tree.sl (7:Nat) (cL p217 3 1)),AV.t (Tree.sl (4:Nat) (cL p217 3 2)),AV.t (Tree.sl (5:Nat) (cL p217 3 3)),AV.t (tI (cI p217 3 4)),AV.t (tI (cI p217 3
 5)),AV.t (tI (cI p217 3 6)),AV.t (tI (cI p217 3 7)),AV.t (tI (cI p217 3 8)),AV.t (tI (cI p217 3 9)),AV.t (Tree.bool (cB p217 3 10)),AV.sref (0:Nat) (AD p217 3 11) (AE p217 3 11) (AB p217 3
 11),AV.sref (1:Nat) (AD p217 3 12) (AE p217 3 12) (AB p217 3 12),AV.sref (2:Nat) (AD p217 3 13) (AE p217 3 13) (AB p217 3 13)],AA.box [AV.ptr (3:Nat) (0:Nat)],AA.row false (AF
 p217 5) (4:Nat) (oEs p217 5),AA.box [AV.sref (5:Nat) (AD p217 6 0) (AE p217 6 0) (AB p217 6 0)],AA.row false (AF p217 7) (4:Nat) (oEs p217 7),AA.box [AV.sref (7:Nat) (AD p217 8 0)
 (AE p217 8 0) (AB p217 8 0)],AA.box [AV.ptr (3:Nat) (0:Nat)],AA.box [AV.t (tI (cI p217 10 0))],AA.box [AV.t (Tree.bool (cB p217 11 0))],AA.box [],AA.box [AV.ptr (3:Nat) (0:Nat)],
 AA.box [],AA.box [],AA.box [],AA.box []])))
noncomputable def J16_64 (n:Nat) (again213:(List AV×Heap)→Option (List Tree)) (p212:List AV×Heap) (p214:List AV×Heap):Option (List Tree):=
 again213 ([AV.t (tI (w64 ((vI p212 0)+(1:Int))))],[AA.row false (AF p214 0) (1:Nat) (oEs p214 0),AA.row false (AF p214 1) (1:Nat) (oEs p214 1),AA.row false (AF p214 2) (1:Nat) (oEs
 p214 2),AA.box [AV.t (Tree.sl (1:Nat) (cL p214 3 0)),AV.t (Tree.sl (7:Nat) (cL p214 3 1)),AV.t (Tree.sl (4:Nat) (cL p214 3 2)),AV.t (Tree.sl (5:Nat) (cL p214 3 3)),AV.t (tI (cI p214 3 4)),AV.t
 (tI (cI p214 3 5)),AV.t (tI (cI p214 3 6)),AV.t (tI (cI p214 3 7)),AV.t (tI (cI p214 3 8)),AV.t (tI (cI p214 3 9)),AV.t (Tree.bool (cB p214 3 10)),AV.sref (0:Nat) (AD p214 3 11) (AE p214 3
 11) (AB p214 3 11),AV.sref (1:Nat) (AD p214 3 12) (AE p214 3 12) (AB p214 3 12),AV.sref (2:Nat) (AD p214 3 13) (AE p214 3 13) (AB p214 3 13)],AA.box [AV.ptr (3:Nat) (0:Nat)],
 AA.row false (AF p214 5) (4:Nat) (oEs p214 5),AA.box [AV.sref (5:Nat) (AD p214 6 0) (AE p214 6 0) (AB p214 6 0)],AA.row false (AF p214 7) (4:Nat) (oEs p214 7),AA.box [AV.sref
 (7:Nat) (AD p214 8 0) (AE p214 8 0) (AB p214 8 0)],AA.box [AV.ptr (3:Nat) (0:Nat)],AA.box [AV.t (tI (cI p214 10 0))],AA.box [AV.t (Tree.bool (cB p214 11 0))],AA.box [],AA.box
 [AV.ptr (3:Nat) (0:Nat)],AA.box [],AA.box []])
noncomputable def Uj (n:Nat) (y211:List Tree) (y206:List Tree) (p207:List AV×Heap) (again210:(List AV×Heap)→Option (List Tree)) (p212:List AV×Heap) (again213:(List AV×Heap)→Option (List Tree)):Option (List Tree):=
 cnd (decide (vI p212 0<(1:Int))=true) (join (fun (p214:List AV×Heap)=>J16_64 n again213 p212 p214) fun (again215:_→Option (List Tree))=>cnd ((2:Nat)=(2:Nat)∧(0:Int)≤vI p212 0)
 (Option.bind [[tI (0:Int),tI (1099511627776:Int)]][toNat (vI p212 0)]? fun y216=>cnd (okI y216 0) (cnd (okI y216 1) (join (fun (p217:List AV×Heap)=>J16_63 n again215 y211 y206 y216 p217)
 fun (again218:_→Option (List Tree))=>cnd (AF p212 2=AD p212 3 13∧(1:Nat)=(1:Nat)∧(0:Int)≤vI p207 0∧vI p207 0<((AB p212 3 13:Nat):Int)) (cnd (AF p212 2=AD p212 3 13)
 (Option.bind (oEs p212 2)[(AE p212 3 13)+(toNat (vI p207 0))]? fun y219=>cnd (okI y219 0) (cnd (AF p212 0=AD p212 3 11∧(1:Nat)=(1:Nat)∧(0:Int)≤vI p207 0∧vI p207 0<((AB
 p212 3 11:Nat):Int)) (cnd (AF p212 0=AD p212 3 11) (Option.bind (oEs p212 0)[(AE p212 3 11)+(toNat (vI p207 0))]? fun y220=>cnd (okL 2 y220 0) (AO (fun (p221:List AV×Heap)
 (again222:_→Option (List Tree))=>L16_58 n y220 y216 y206 y219 p207 again218 p221 again222) n ([AV.t (tI (0:Int))],[AA.row false (AF p212 0) (1:Nat) (oEs p212 0),AA.row false (AF p212
 1) (1:Nat) (oEs p212 1),AA.row false (AF p212 2) (1:Nat) (oEs p212 2),AA.box [AV.t (Tree.sl (1:Nat) (cL p212 3 0)),AV.t (Tree.sl (7:Nat) (cL p212 3 1)),AV.t (Tree.sl (4:Nat) (cL p212 3 2)),
 AV.t (Tree.sl (5:Nat) (cL p212 3 3)),AV.t (tI (cI p212 3 4)),AV.t (tI (cI p212 3 5)),AV.t (tI (cI p212 3 6)),AV.t (tI (cI p212 3 7)),AV.t (tI (cI p212 3 8)),AV.t (tI (cI p212 3 9)),AV.t
 (Tree.bool (cB p212 3 10)),AV.sref (0:Nat) (AD p212 3 11) (AE p212 3 11) (AB p212 3 11),AV.sref (1:Nat) (AD p212 3 12) (AE p212 3 12) (AB p212 3 12),AV.sref (2:Nat) (AD p212 3 13)
 (AE p212 3 13) (AB p212 3 13)],AA.box [AV.ptr (3:Nat) (0:Nat)],AA.row false (AF p212 5) (4:Nat) (oEs p212 5),AA.box [AV.sref (5:Nat) (AD p212 6 0) (AE p212 6 0) (AB p212 6 0)],
 AA.row false (AF p212 7) (4:Nat) (oEs p212 7),AA.box [AV.sref (7:Nat) (AD p212 8 0) (AE p212 8 0) (AB p212 8 0)],AA.box [AV.ptr (3:Nat) (0:Nat)],AA.box [AV.t (tI (cI p212 10 0))],
 AA.box [AV.t (Tree.bool (cB p212 11 0))],AA.box [],AA.box [AV.ptr (3:Nat) (0:Nat)],AA.box [],AA.box [],AA.box [],AA.box [AV.t (tI (0:Int)),AV.t (tI (0:Int)),AV.t (tI (0:Int)),
 AV.t (tI (0:Int))]])) none) none) none) none) none) none) none) none) none) (again210 ([],[AA.row false (AF p212 0) (1:Nat) (oEs p212 0),AA.row false (AF p212 1) (1:Nat) (oEs p212 1),
 AA.row false (AF p212 2) (1:Nat) (oEs p212 2),AA.box [AV.t (Tree.sl (1:Nat) (cL p212 3 0)),AV.t (Tree.sl (7:Nat) (cL p212 3 1)),AV.t (Tree.sl (4:Nat) (cL p212 3 2)),AV.t (Tree.sl (5:Nat) (cL
 p212 3 3)),AV.t (tI (cI p212 3 4)),AV.t (tI (cI p212 3 5)),AV.t (tI (cI p212 3 6)),AV.t (tI (cI p212 3 7)),AV.t (tI (cI p212 3 8)),AV.t (tI (cI p212 3 9)),AV.t (Tree.bool (cB p212 3 10)),
 AV.sref (0:Nat) (AD p212 3 11) (AE p212 3 11) (AB p212 3 11),AV.sref (1:Nat) (AD p212 3 12) (AE p212 3 12) (AB p212 3 12),AV.sref (2:Nat) (AD p212 3 13) (AE p212 3 13) (AB p212 3
 13)],AA.box [AV.ptr (3:Nat) (0:Nat)],AA.row false (AF p212 5) (4:Nat) (oEs p212 5),AA.box [AV.sref (5:Nat) (AD p212 6 0) (AE p212 6 0) (AB p212 6 0)],AA.row false (AF p212 7)
 (4:Nat) (oEs p212 7),AA.box [AV.sref (7:Nat) (AD p212 8 0) (AE p212 8 0) (AB p212 8 0)],AA.box [AV.ptr (3:Nat) (0:Nat)],AA.box [AV.t (tI (cI p212 10 0))],AA.box [AV.t (Tree.bool (cB
 p212 11 0))],AA.box [],AA.box [AV.ptr (3:Nat) (0:Nat)],AA.box []]))
noncomputable def Nj (n:Nat) (y243:List Tree) (y239:List Tree) (y206:List Tree) (y242:List Tree) (p207:List AV×Heap) (again241:(List AV×Heap)→Option (List Tree)) (p244:List AV×Heap) (again245:(List AV×Heap)→Option (List Tree)):Option (List Tree):=
 cnd (decide (vI p244 0<((length (gL y243 0):Nat):Int))=true) (cnd ((2:Nat)=(2:Nat)∧(0:Int)≤vI p244 0) (Option.bind (gL y243 0)[toNat (vI p244 0)]? fun y246=>cnd (okI y246 0) (cnd
 (okI y246 1) (cnd (decide (w64 ((if (if gI y239 0>gI y206 3 then gI y239 0 else gI y206 3)>gI y246 0 then (if gI y239 0>gI y206 3 then gI y239 0 else gI y206 3) else gI y246 0)+(gI y242 0))≤
 gI y246 1)=true) (cnd ((7:Nat)=(7:Nat)∧(0:Int)≤vI p207 0) (Option.bind (cL p244 3 1)[toNat (vI p207 0)]? fun y247=>cnd (okI y247 5) (again241 ([AV.t (tI (vI p207 0)),AV.t (tI (if (if gI
 y239 0>gI y206 3 then gI y239 0 else gI y206 3)>gI y246 0 then (if gI y239 0>gI y206 3 then gI y239 0 else gI y206 3) else gI y246 0)),AV.t (tI (w64 ((if (if gI y239 0>gI y206 3 then gI y239
 0 else gI y206 3)>gI y246 0 then (if gI y239 0>gI y206 3 then gI y239 0 else gI y206 3) else gI y246 0)+(gI y242 0)))),AV.t (tI (w64 ((w64 ((if (if gI y239 0>gI y206 3 then gI y239 0 else gI
 y206 3)>gI y246 0 then (if gI y239 0>gI y206 3 then gI y239 0 else gI y206 3) else gI y246 0)+(gI y242 0)))+(gI y247 5)))),AV.t (Tree.bool true)],[AA.row false (AF p244 0) (1:Nat) (oEs
 p244 0),AA.row false (AF p244 1) (1:Nat) (oEs p244 1),AA.row false (AF p244 2) (1:Nat) (oEs p244 2),AA.box [AV.t (Tree.sl (1:Nat) (cL p244 3 0)),AV.t (Tree.sl (7:Nat) (cL p244 3 1)),
 AV.t (Tree.sl (4:Nat) (cL p244 3 2)),AV.t (Tree.sl (5:Nat) (cL p244 3 3)),AV.t (tI (cI p244 3 4)),AV.t (tI (cI p244 3 5)),AV.t (tI (cI p244 3 6)),AV.t (tI (cI p244 3 7)),AV.t (tI (cI p244 3 8)),
 AV.t (tI (cI p244 3 9)),AV.t (Tree.bool (cB p244 3 10)),AV.sref (0:Nat) (AD p244 3 11) (AE p244 3 11) (AB p244 3 11),AV.sref (1:Nat) (AD p244 3 12) (AE p244 3 12) (AB p244 3 12),
 AV.sref (2:Nat) (AD p244 3 13) (AE p244 3 13) (AB p244 3 13)],AA.box [AV.ptr (3:Nat) (0:Nat)],AA.row false (AF p244 5) (4:Nat) (oEs p244 5),AA.box [AV.sref (5:Nat) (AD p244 6 0)
 (AE p244 6 0) (AB p244 6 0)],AA.row false (AF p244 7) (4:Nat) (oEs p244 7),AA.box [AV.sref (7:Nat) (AD p244 8 0) (AE p244 8 0) (AB p244 8 0)],AA.box [AV.ptr (3:Nat) (0:Nat)],
 AA.box [AV.t (tI (cI p244 10 0))],AA.box [AV.t (Tree.bool (cB p244 11 0))],AA.box [],AA.box [AV.ptr (3:Nat) (0:Nat)],AA.box [],AA.box [],AA.box []])) none) none) (again245 ([AV.t
 (tI (w64 ((vI p244 0)+(1:Int))))],[AA.row false (AF p244 0) (1:Nat) (oEs p244 0),AA.row false (AF p244 1) (1:Nat) (oEs p244 1),AA.row false (AF p244 2) (1:Nat) (oEs p244 2),AA.box
 [AV.t (Tree.sl (1:Nat) (cL p244 3 0)),AV.t (Tree.sl (7:Nat) (cL p244 3 1)),AV.t (Tree.sl (4:Nat) (cL p244 3 2)),AV.t (Tree.sl (5:Nat) (cL p244 3 3)),AV.t (tI (cI p244 3 4)),AV.t (tI (cI p244 3
 5)),AV.t (tI (cI p244 3 6)),AV.t (tI (cI p244 3 7)),AV.t (tI (cI p244 3 8)),AV.t (tI (cI p244 3 9)),AV.t (Tree.bool (cB p244 3 10)),AV.sref (0:Nat) (AD p244 3 11) (AE p244 3 11) (AB p244 3
 11),AV.sref (1:Nat) (AD p244 3 12) (AE p244 3 12) (AB p244 3 12),AV.sref (2:Nat) (AD p244 3 13) (AE p244 3 13) (AB p244 3 13)],AA.box [AV.ptr (3:Nat) (0:Nat)],AA.row false (AF
 p244 5) (4:Nat) (oEs p244 5),AA.box [AV.sref (5:Nat) (AD p244 6 0) (AE p244 6 0) (AB p244 6 0)],AA.row false (AF p244 7) (4:Nat) (oEs p244 7),AA.box [AV.sref (7:Nat) (AD p244 8 0)
 (AE p244 8 0) (AB p244 8 0)],AA.box [AV.ptr (3:Nat) (0:Nat)],AA.box [AV.t (tI (cI p244 10 0))],AA.box [AV.t (Tree.bool (cB p244 11 0))],AA.box [],AA.box [AV.ptr (3:Nat) (0:Nat)],
 AA.box [],AA.box [],AA.box [],AA.box [AV.t (tI (cI p244 17 0)),AV.t (tI (cI p244 17 1)),AV.t (tI (cI p244 17 2)),AV.t (tI (cI p244 17 3))]]))) none) none) none) (again241 ([AV.t (tI
 (0:Int)),AV.t (tI (0:Int)),AV.t (tI (0:Int)),AV.t (tI (0:Int)),AV.t (Tree.bool false)],[AA.row false (AF p244 0) (1:Nat) (oEs p244 0),AA.row false (AF p244 1) (1:Nat) (oEs p244 1),
 AA.row false (AF p244 2) (1:Nat) (oEs p244 2),AA.box [AV.t (Tree.sl (1:Nat) (cL p244 3 0)),AV.t (Tree.sl (7:Nat) (cL p244 3 1)),AV.t (Tree.sl (4:Nat) (cL p244 3 2)),AV.t (Tree.sl (5:Nat) (cL
 p244 3 3)),AV.t (tI (cI p244 3 4)),AV.t (tI (cI p244 3 5)),AV.t (tI (cI p244 3 6)),AV.t (tI (cI p244 3 7)),AV.t (tI (cI p244 3 8)),AV.t (tI (cI p244 3 9)),AV.t (Tree.bool (cB p244 3 10)),
 AV.sref (0:Nat) (AD p244 3 11) (AE p244 3 11) (AB p244 3 11),AV.sref (1:Nat) (AD p244 3 12) (AE p244 3 12) (AB p244 3 12),AV.sref (2:Nat) (AD p244 3 13) (AE p244 3 13) (AB p244 3
 13)],AA.box [AV.ptr (3:Nat) (0:Nat)],AA.row false (AF p244 5) (4:Nat) (oEs p244 5),AA.box [AV.sref (5:Nat) (AD p244 6 0) (AE p244 6 0) (AB p244 6 0)],AA.row false (AF p244 7)
 (4:Nat) (oEs p244 7),AA.box [AV.sref (7:Nat) (AD p244 8 0) (AE p244 8 0) (AB p244 8 0)],AA.box [AV.ptr (3:Nat) (0:Nat)],AA.box [AV.t (tI (cI p244 10 0))],AA.box [AV.t (Tree.bool (cB
 p244 11 0))],AA.box [],AA.box [AV.ptr (3:Nat) (0:Nat)],AA.box [],AA.box [],AA.box []]))
noncomputable def Np (n:Nat) (y206:List Tree) (again249:(List AV×Heap)→Option (List Tree)) (p240:List AV×Heap) (y211:List Tree) (y239:List Tree) (p250:List AV×Heap):Option (List Tree):=
 cnd (decide (vI p250 0>gI y206 2)=true) (again249 ([AV.t (Tree.bool true)],[AA.row false (AF p250 0) (1:Nat) (oEs p250 0),AA.row false (AF p250 1) (1:Nat) (oEs p250 1),AA.row false
 (AF p250 2) (1:Nat) (oEs p250 2),AA.box [AV.t (Tree.sl (1:Nat) (cL p250 3 0)),AV.t (Tree.sl (7:Nat) (cL p250 3 1)),AV.t (Tree.sl (4:Nat) (cL p250 3 2)),AV.t (Tree.sl (5:Nat) (cL p250 3 3)),
 AV.t (tI (cI p250 3 4)),AV.t (tI (cI p250 3 5)),AV.t (tI (cI p250 3 6)),AV.t (tI (cI p250 3 7)),AV.t (tI (cI p250 3 8)),AV.t (tI (cI p250 3 9)),AV.t (Tree.bool (cB p250 3 10)),AV.sref (0:Nat)
 (AD p250 3 11) (AE p250 3 11) (AB p250 3 11),AV.sref (1:Nat) (AD p250 3 12) (AE p250 3 12) (AB p250 3 12),AV.sref (2:Nat) (AD p250 3 13) (AE p250 3 13) (AB p250 3 13)],AA.box
 [AV.ptr (3:Nat) (0:Nat)],AA.row false (AF p250 5) (4:Nat) (oEs p250 5),AA.box [AV.sref (5:Nat) (AD p250 6 0) (AE p250 6 0) (AB p250 6 0)],AA.row false (AF p250 7) (4:Nat) (oEs p250
 7),AA.box [AV.sref (7:Nat) (AD p250 8 0) (AE p250 8 0) (AB p250 8 0)],AA.box [AV.ptr (3:Nat) (0:Nat)],AA.box [AV.t (tI (cI p250 10 0))],AA.box [AV.t (Tree.bool (cB p250 11 0))],
 AA.box [],AA.box [AV.ptr (3:Nat) (0:Nat)],AA.box [],AA.box [],AA.box [],AA.box []])) (cnd (decide (vI p240 3>cI p250 3 8)=true) (again249 ([AV.t (Tree.bool true)],[AA.row false
 (AF p250 0) (1:Nat) (oEs p250 0),AA.row false (AF p250 1) (1:Nat) (oEs p250 1),AA.row false (AF p250 2) (1:Nat) (oEs p250 2),AA.box [AV.t (Tree.sl (1:Nat) (cL p250 3 0)),AV.t (Tree.sl
 (7:Nat) (cL p250 3 1)),AV.t (Tree.sl (4:Nat) (cL p250 3 2)),AV.t (Tree.sl (5:Nat) (cL p250 3 3)),AV.t (tI (cI p250 3 4)),AV.t (tI (cI p250 3 5)),AV.t (tI (cI p250 3 6)),AV.t (tI (cI p250 3 7)),
 AV.t (tI (cI p250 3 8)),AV.t (tI (cI p250 3 9)),AV.t (Tree.bool (cB p250 3 10)),AV.sref (0:Nat) (AD p250 3 11) (AE p250 3 11) (AB p250 3 11),AV.sref (1:Nat) (AD p250 3 12) (AE p250 3 12)
 (AB p250 3 12),AV.sref (2:Nat) (AD p250 3 13) (AE p250 3 13) (AB p250 3 13)],AA.box [AV.ptr (3:Nat) (0:Nat)],AA.row false (AF p250 5) (4:Nat) (oEs p250 5),AA.box [AV.sref (5:Nat)
 (AD p250 6 0) (AE p250 6 0) (AB p250 6 0)],AA.row false (AF p250 7) (4:Nat) (oEs p250 7),AA.box [AV.sref (7:Nat) (AD p250 8 0) (AE p250 8 0) (AB p250 8 0)],AA.box [AV.ptr
 (3:Nat) (0:Nat)],AA.box [AV.t (tI (cI p250 10 0))],AA.box [AV.t (Tree.bool (cB p250 11 0))],AA.box [],AA.box [AV.ptr (3:Nat) (0:Nat)],AA.box [],AA.box [],AA.box [],AA.box []]))
 (cnd (((gI y211 1) != (cI p250 3 5))=true) (again249 ([AV.t (Tree.bool (decide (vI p240 3≥gI y239 1)))],[AA.row false (AF p250 0) (1:Nat) (oEs p250 0),AA.row false (AF p250 1) (1:Nat)
 (oEs p250 1),AA.row false (AF p250 2) (1:Nat) (oEs p250 2),AA.box [AV.t (Tree.sl (1:Nat) (cL p250 3 0)),AV.t (Tree.sl (7:Nat) (cL p250 3 1)),AV.t (Tree.sl (4:Nat) (cL p250 3 2)),AV.t
 (Tree.sl (5:Nat) (cL p250 3 3)),AV.t (tI (cI p250 3 4)),AV.t (tI (cI p250 3 5)),AV.t (tI (cI p250 3 6)),AV.t (tI (cI p250 3 7)),AV.t (tI (cI p250 3 8)),AV.t (tI (cI p250 3 9)),AV.t (Tree.bool
 (cB p250 3 10)),AV.sref (0:Nat) (AD p250 3 11) (AE p250 3 11) (AB p250 3 11),AV.sref (1:Nat) (AD p250 3 12) (AE p250 3 12) (AB p250 3 12),AV.sref (2:Nat) (AD p250 3 13) (AE p250 3
 13) (AB p250 3 13)],AA.box [AV.ptr (3:Nat) (0:Nat)],AA.row false (AF p250 5) (4:Nat) (oEs p250 5),AA.box [AV.sref (5:Nat) (AD p250 6 0) (AE p250 6 0) (AB p250 6 0)],AA.row false
 (AF p250 7) (4:Nat) (oEs p250 7),AA.box [AV.sref (7:Nat) (AD p250 8 0) (AE p250 8 0) (AB p250 8 0)],AA.box [AV.ptr (3:Nat) (0:Nat)],AA.box [AV.t (tI (cI p250 10 0))],AA.box [AV.t
 (Tree.bool (cB p250 11 0))],AA.box [],AA.box [AV.ptr (3:Nat) (0:Nat)],AA.box [],AA.box [],AA.box [],AA.box []])) (again249 ([AV.t (Tree.bool false)],[AA.row false (AF p250 0)
 (1:Nat) (oEs p250 0),AA.row false (AF p250 1) (1:Nat) (oEs p250 1),AA.row false (AF p250 2) (1:Nat) (oEs p250 2),AA.box [AV.t (Tree.sl (1:Nat) (cL p250 3 0)),AV.t (Tree.sl (7:Nat) (cL
 p250 3 1)),AV.t (Tree.sl (4:Nat) (cL p250 3 2)),AV.t (Tree.sl (5:Nat) (cL p250 3 3)),AV.t (tI (cI p250 3 4)),AV.t (tI (cI p250 3 5)),AV.t (tI (cI p250 3 6)),AV.t (tI (cI p250 3 7)),AV.t (tI (cI
 p250 3 8)),AV.t (tI (cI p250 3 9)),AV.t (Tree.bool (cB p250 3 10)),AV.sref (0:Nat) (AD p250 3 11) (AE p250 3 11) (AB p250 3 11),AV.sref (1:Nat) (AD p250 3 12) (AE p250 3 12) (AB p250 3
 12),AV.sref (2:Nat) (AD p250 3 13) (AE p250 3 13) (AB p250 3 13)],AA.box [AV.ptr (3:Nat) (0:Nat)],AA.row false (AF p250 5) (4:Nat) (oEs p250 5),AA.box [AV.sref (5:Nat) (AD p250 6
 0) (AE p250 6 0) (AB p250 6 0)],AA.row false (AF p250 7) (4:Nat) (oEs p250 7),AA.box [AV.sref (7:Nat) (AD p250 8 0) (AE p250 8 0) (AB p250 8 0)],AA.box [AV.ptr (3:Nat) (0:Nat)],
 AA.box [AV.t (tI (cI p250 10 0))],AA.box [AV.t (Tree.bool (cB p250 11 0))],AA.box [],AA.box [AV.ptr (3:Nat) (0:Nat)],AA.box [],AA.box [],AA.box [],AA.box []]))))
noncomputable def Le (n:Nat) (again238:(List AV×Heap)→Option (List Tree)) (p255:List AV×Heap):Option (List Tree):=
 again238 ([],[AA.row false (AF p255 0) (1:Nat) (oEs p255 0),AA.row false (AF p255 1) (1:Nat) (oEs p255 1),AA.row false (AF p255 2) (1:Nat) (oEs p255 2),AA.box [AV.t (Tree.sl (1:Nat)
 (cL p255 3 0)),AV.t (Tree.sl (7:Nat) (cL p255 3 1)),AV.t (Tree.sl (4:Nat) (cL p255 3 2)),AV.t (Tree.sl (5:Nat) (cL p255 3 3)),AV.t (tI (cI p255 3 4)),AV.t (tI (cI p255 3 5)),AV.t (tI (cI p255 3
 6)),AV.t (tI (cI p255 3 7)),AV.t (tI (cI p255 3 8)),AV.t (tI (cI p255 3 9)),AV.t (Tree.bool (cB p255 3 10)),AV.sref (0:Nat) (AD p255 3 11) (AE p255 3 11) (AB p255 3 11),AV.sref (1:Nat)
 (AD p255 3 12) (AE p255 3 12) (AB p255 3 12),AV.sref (2:Nat) (AD p255 3 13) (AE p255 3 13) (AB p255 3 13)],AA.box [AV.ptr (3:Nat) (0:Nat)],AA.row false (AF p255 5) (4:Nat) (oEs
 p255 5),AA.box [AV.sref (5:Nat) (AD p255 6 0) (AE p255 6 0) (AB p255 6 0)],AA.row false (AF p255 7) (4:Nat) (oEs p255 7),AA.box [AV.sref (7:Nat) (AD p255 8 0) (AE p255 8 0) (AB
 p255 8 0)],AA.box [AV.ptr (3:Nat) (0:Nat)],AA.box [AV.t (tI (cI p255 10 0))],AA.box [AV.t (Tree.bool (cB p255 11 0))],AA.box [],AA.box [AV.ptr (3:Nat) (0:Nat)],AA.box [],AA.box
 []])
noncomputable def Ld (n:Nat) (again238:(List AV×Heap)→Option (List Tree)) (p240:List AV×Heap) (p253:List AV×Heap):Option (List Tree):=
 join (fun (p255:List AV×Heap)=>Le n again238 p255) fun (again256:_→Option (List Tree))=>cnd (vB p253 0=true) (again256 ([],[AA.row false (AF p253 0) (1:Nat) (oEs p253 0),
 AA.row false (AF p253 1) (1:Nat) (oEs p253 1),AA.row false (AF p253 2) (1:Nat) (oEs p253 2),AA.box [AV.t (Tree.sl (1:Nat) (cL p253 3 0)),AV.t (Tree.sl (7:Nat) (cL p253 3 1)),AV.t
 (Tree.sl (4:Nat) (cL p253 3 2)),AV.t (Tree.sl (5:Nat) (cL p253 3 3)),AV.t (tI (cI p253 3 4)),AV.t (tI (cI p253 3 5)),AV.t (tI (cI p253 3 6)),AV.t (tI (cI p253 3 7)),AV.t (tI (cI p253 3 8)),AV.t
 (tI (cI p253 3 9)),AV.t (Tree.bool (cB p253 3 10)),AV.sref (0:Nat) (AD p253 3 11) (AE p253 3 11) (AB p253 3 11),AV.sref (1:Nat) (AD p253 3 12) (AE p253 3 12) (AB p253 3 12),AV.sref
 (2:Nat) (AD p253 3 13) (AE p253 3 13) (AB p253 3 13)],AA.box [AV.ptr (3:Nat) (0:Nat)],AA.row false (AF p253 5) (4:Nat) (oEs p253 5),AA.box [AV.sref (5:Nat) (AD p253 6 0) (AE p253
 6 0) (AB p253 6 0)],AA.row false (AF p253 7) (4:Nat) (oEs p253 7),AA.box [AV.sref (7:Nat) (AD p253 8 0) (AE p253 8 0) (AB p253 8 0)],AA.box [AV.ptr (3:Nat) (0:Nat)],AA.box [AV.t
 (tI (vI p240 3))],AA.box [AV.t (Tree.bool true)],AA.box [],AA.box [AV.ptr (3:Nat) (0:Nat)],AA.box [],AA.box [],AA.box [],AA.box [],AA.box []])) (again256 ([],[AA.row false
 (AF p253 0) (1:Nat) (oEs p253 0),AA.row false (AF p253 1) (1:Nat) (oEs p253 1),AA.row false (AF p253 2) (1:Nat) (oEs p253 2),AA.box [AV.t (Tree.sl (1:Nat) (cL p253 3 0)),AV.t (Tree.sl
 (7:Nat) (cL p253 3 1)),AV.t (Tree.sl (4:Nat) (cL p253 3 2)),AV.t (Tree.sl (5:Nat) (cL p253 3 3)),AV.t (tI (cI p253 3 4)),AV.t (tI (cI p253 3 5)),AV.t (tI (cI p253 3 6)),AV.t (tI (cI p253 3 7)),
 AV.t (tI (cI p253 3 8)),AV.t (tI (cI p253 3 9)),AV.t (Tree.bool (cB p253 3 10)),AV.sref (0:Nat) (AD p253 3 11) (AE p253 3 11) (AB p253 3 11),AV.sref (1:Nat) (AD p253 3 12) (AE p253 3 12)
 (AB p253 3 12),AV.sref (2:Nat) (AD p253 3 13) (AE p253 3 13) (AB p253 3 13)],AA.box [AV.ptr (3:Nat) (0:Nat)],AA.row false (AF p253 5) (4:Nat) (oEs p253 5),AA.box [AV.sref (5:Nat)
 (AD p253 6 0) (AE p253 6 0) (AB p253 6 0)],AA.row false (AF p253 7) (4:Nat) (oEs p253 7),AA.box [AV.sref (7:Nat) (AD p253 8 0) (AE p253 8 0) (AB p253 8 0)],AA.box [AV.ptr
 (3:Nat) (0:Nat)],AA.box [AV.t (tI (cI p253 10 0))],AA.box [AV.t (Tree.bool (cB p253 11 0))],AA.box [],AA.box [AV.ptr (3:Nat) (0:Nat)],AA.box [],AA.box [],AA.box [],AA.box [],
 AA.box []]))
noncomputable def Fc (n:Nat) (again238:(List AV×Heap)→Option (List Tree)) (p240:List AV×Heap) (y211:List Tree) (p248:List AV×Heap):Option (List Tree):=
 cnd (vB p248 0=true) (again238 ([],[AA.row false (AF p248 0) (1:Nat) (oEs p248 0),AA.row false (AF p248 1) (1:Nat) (oEs p248 1),AA.row false (AF p248 2) (1:Nat) (oEs p248 2),AA.box
 [AV.t (Tree.sl (1:Nat) (cL p248 3 0)),AV.t (Tree.sl (7:Nat) (cL p248 3 1)),AV.t (Tree.sl (4:Nat) (cL p248 3 2)),AV.t (Tree.sl (5:Nat) (cL p248 3 3)),AV.t (tI (cI p248 3 4)),AV.t (tI (cI p248 3
 5)),AV.t (tI (cI p248 3 6)),AV.t (tI (cI p248 3 7)),AV.t (tI (cI p248 3 8)),AV.t (tI (cI p248 3 9)),AV.t (Tree.bool (cB p248 3 10)),AV.sref (0:Nat) (AD p248 3 11) (AE p248 3 11) (AB p248 3
 11),AV.sref (1:Nat) (AD p248 3 12) (AE p248 3 12) (AB p248 3 12),AV.sref (2:Nat) (AD p248 3 13) (AE p248 3 13) (AB p248 3 13)],AA.box [AV.ptr (3:Nat) (0:Nat)],AA.row false (AF
 p248 5) (4:Nat) (oEs p248 5),AA.box [AV.sref (5:Nat) (AD p248 6 0) (AE p248 6 0) (AB p248 6 0)],AA.row false (AF p248 7) (4:Nat) (oEs p248 7),AA.box [AV.sref (7:Nat) (AD p248 8 0)
 (AE p248 8 0) (AB p248 8 0)],AA.box [AV.ptr (3:Nat) (0:Nat)],AA.box [AV.t (tI (cI p248 10 0))],AA.box [AV.t (Tree.bool (cB p248 11 0))],AA.box [],AA.box [AV.ptr (3:Nat) (0:Nat)],
 AA.box [],AA.box []])) (join (fun (p253:List AV×Heap)=>Ld n again238 p240 p253) fun (again254:_→Option (List Tree))=>cnd (((gI y211 1)==(cI p248 3 5))=true) (cnd ((!(cB p248
 11 0))=true) (again254 ([AV.t (Tree.bool true)],[AA.row false (AF p248 0) (1:Nat) (oEs p248 0),AA.row false (AF p248 1) (1:Nat) (oEs p248 1),AA.row false (AF p248 2) (1:Nat) (oEs p248
 2),AA.box [AV.t (Tree.sl (1:Nat) (cL p248 3 0)),AV.t (Tree.sl (7:Nat) (cL p248 3 1)),AV.t (Tree.sl (4:Nat) (cL p248 3 2)),AV.t (Tree.sl (5:Nat) (cL p248 3 3)),AV.t (tI (cI p248 3 4)),AV.t (tI
 (cI p248 3 5)),AV.t (tI (cI p248 3 6)),AV.t (tI (cI p248 3 7)),AV.t (tI (cI p248 3 8)),AV.t (tI (cI p248 3 9)),AV.t (Tree.bool (cB p248 3 10)),AV.sref (0:Nat) (AD p248 3 11) (AE p248 3 11)
 (AB p248 3 11),AV.sref (1:Nat) (AD p248 3 12) (AE p248 3 12) (AB p248 3 12),AV.sref (2:Nat) (AD p248 3 13) (AE p248 3 13) (AB p248 3 13)],AA.box [AV.ptr (3:Nat) (0:Nat)],AA.row
 false (AF p248 5) (4:Nat) (oEs p248 5),AA.box [AV.sref (5:Nat) (AD p248 6 0) (AE p248 6 0) (AB p248 6 0)],AA.row false (AF p248 7) (4:Nat) (oEs p248 7),AA.box [AV.sref (7:Nat) (AD
 p248 8 0) (AE p248 8 0) (AB p248 8 0)],AA.box [AV.ptr (3:Nat) (0:Nat)],AA.box [AV.t (tI (cI p248 10 0))],AA.box [AV.t (Tree.bool (cB p248 11 0))],AA.box [],AA.box [AV.ptr (3:Nat)
 (0:Nat)],AA.box [],AA.box [],AA.box [],AA.box [],AA.box []])) (again254 ([AV.t (Tree.bool (decide (vI p240 3<cI p248 10 0)))],[AA.row false (AF p248 0) (1:Nat) (oEs p248 0),
 AA.row false (AF p248 1) (1:Nat) (oEs p248 1),AA.row false (AF p248 2) (1:Nat) (oEs p248 2),AA.box [AV.t (Tree.sl (1:Nat) (cL p248 3 0)),AV.t (Tree.sl (7:Nat) (cL p248 3 1)),AV.t
 (Tree.sl (4:Nat) (cL p248 3 2)),AV.t (Tree.sl (5:Nat) (cL p248 3 3)),AV.t (tI (cI p248 3 4)),AV.t (tI (cI p248 3 5)),AV.t (tI (cI p248 3 6)),AV.t (tI (cI p248 3 7)),AV.t (tI (cI p248 3 8)),AV.t
 (tI (cI p248 3 9)),AV.t (Tree.bool (cB p248 3 10)),AV.sref (0:Nat) (AD p248 3 11) (AE p248 3 11) (AB p248 3 11),AV.sref (1:Nat) (AD p248 3 12) (AE p248 3 12) (AB p248 3 12),AV.sref
 (2:Nat) (AD p248 3 13) (AE p248 3 13) (AB p248 3 13)],AA.box [AV.ptr (3:Nat) (0:Nat)],AA.row false (AF p248 5) (4:Nat) (oEs p248 5),AA.box [AV.sref (5:Nat) (AD p248 6 0) (AE p248
 6 0) (AB p248 6 0)],AA.row false (AF p248 7) (4:Nat) (oEs p248 7),AA.box [AV.sref (7:Nat) (AD p248 8 0) (AE p248 8 0) (AB p248 8 0)],AA.box [AV.ptr (3:Nat) (0:Nat)],AA.box [AV.t
 (tI (cI p248 10 0))],AA.box [AV.t (Tree.bool (cB p248 11 0))],AA.box [],AA.box [AV.ptr (3:Nat) (0:Nat)],AA.box [],AA.box [],AA.box [],AA.box [],AA.box []]))) (again254 ([AV.t
 (Tree.bool false)],[AA.row false (AF p248 0) (1:Nat) (oEs p248 0),AA.row false (AF p248 1) (1:Nat) (oEs p248 1),AA.row false (AF p248 2) (1:Nat) (oEs p248 2),AA.box [AV.t (Tree.sl
 (1:Nat) (cL p248 3 0)),AV.t (Tree.sl (7:Nat) (cL p248 3 1)),AV.t (Tree.sl (4:Nat) (cL p248 3 2)),AV.t (Tree.sl (5:Nat) (cL p248 3 3)),AV.t (tI (cI p248 3 4)),AV.t (tI (cI p248 3 5)),AV.t (tI (cI
 p248 3 6)),AV.t (tI (cI p248 3 7)),AV.t (tI (cI p248 3 8)),AV.t (tI (cI p248 3 9)),AV.t (Tree.bool (cB p248 3 10)),AV.sref (0:Nat) (AD p248 3 11) (AE p248 3 11) (AB p248 3 11),AV.sref
 (1:Nat) (AD p248 3 12) (AE p248 3 12) (AB p248 3 12),AV.sref (2:Nat) (AD p248 3 13) (AE p248 3 13) (AB p248 3 13)],AA.box [AV.ptr (3:Nat) (0:Nat)],AA.row false (AF p248 5) (4:Nat)
 (oEs p248 5),AA.box [AV.sref (5:Nat) (AD p248 6 0) (AE p248 6 0) (AB p248 6 0)],AA.row false (AF p248 7) (4:Nat) (oEs p248 7),AA.box [AV.sref (7:Nat) (AD p248 8 0) (AE p248 8 0)
 (AB p248 8 0)],AA.box [AV.ptr (3:Nat) (0:Nat)],AA.box [AV.t (tI (cI p248 10 0))],AA.box [AV.t (Tree.bool (cB p248 11 0))],AA.box [],AA.box [AV.ptr (3:Nat) (0:Nat)],AA.box [],
 AA.box [],AA.box [],AA.box [],AA.box []])))
noncomputable def HY (n:Nat) (again238:(List AV×Heap)→Option (List Tree)) (y211:List Tree) (y206:List Tree) (y239:List Tree) (p240:List AV×Heap):Option (List Tree):=
 join (fun (p248:List AV×Heap)=>Fc n again238 p240 y211 p248) fun (again249:_→Option (List Tree))=>cnd ((!(vB p240 4))=true) (again249 ([AV.t (Tree.bool true)],[AA.row false (AF
 p240 0) (1:Nat) (oEs p240 0),AA.row false (AF p240 1) (1:Nat) (oEs p240 1),AA.row false (AF p240 2) (1:Nat) (oEs p240 2),AA.box [AV.t (Tree.sl (1:Nat) (cL p240 3 0)),AV.t (Tree.sl
 (7:Nat) (cL p240 3 1)),AV.t (Tree.sl (4:Nat) (cL p240 3 2)),AV.t (Tree.sl (5:Nat) (cL p240 3 3)),AV.t (tI (cI p240 3 4)),AV.t (tI (cI p240 3 5)),AV.t (tI (cI p240 3 6)),AV.t (tI (cI p240 3 7)),
 AV.t (tI (cI p240 3 8)),AV.t (tI (cI p240 3 9)),AV.t (Tree.bool (cB p240 3 10)),AV.sref (0:Nat) (AD p240 3 11) (AE p240 3 11) (AB p240 3 11),AV.sref (1:Nat) (AD p240 3 12) (AE p240 3 12)
 (AB p240 3 12),AV.sref (2:Nat) (AD p240 3 13) (AE p240 3 13) (AB p240 3 13)],AA.box [AV.ptr (3:Nat) (0:Nat)],AA.row false (AF p240 5) (4:Nat) (oEs p240 5),AA.box [AV.sref (5:Nat)
 (AD p240 6 0) (AE p240 6 0) (AB p240 6 0)],AA.row false (AF p240 7) (4:Nat) (oEs p240 7),AA.box [AV.sref (7:Nat) (AD p240 8 0) (AE p240 8 0) (AB p240 8 0)],AA.box [AV.ptr
 (3:Nat) (0:Nat)],AA.box [AV.t (tI (cI p240 10 0))],AA.box [AV.t (Tree.bool (cB p240 11 0))],AA.box [],AA.box [AV.ptr (3:Nat) (0:Nat)],AA.box [],AA.box [],AA.box [],AA.box []]))
 (join (fun (p250:List AV×Heap)=>Np n y206 again249 p240 y211 y239 p250) fun (again251:_→Option (List Tree))=>cnd (cB p240 3 10=true) (cnd ((7:Nat)=(7:Nat)∧(0:Int)≤vI p240 0)
 (Option.bind (cL p240 3 1)[toNat (vI p240 0)]? fun y252=>cnd (okI y252 5) (again251 ([AV.t (tI (w64 ((vI p240 2)+(w64 ((2:Int)*(gI y252 5))))))],[AA.row false (AF p240 0) (1:Nat) (oEs
 p240 0),AA.row false (AF p240 1) (1:Nat) (oEs p240 1),AA.row false (AF p240 2) (1:Nat) (oEs p240 2),AA.box [AV.t (Tree.sl (1:Nat) (cL p240 3 0)),AV.t (Tree.sl (7:Nat) (cL p240 3 1)),
 AV.t (Tree.sl (4:Nat) (cL p240 3 2)),AV.t (Tree.sl (5:Nat) (cL p240 3 3)),AV.t (tI (cI p240 3 4)),AV.t (tI (cI p240 3 5)),AV.t (tI (cI p240 3 6)),AV.t (tI (cI p240 3 7)),AV.t (tI (cI p240 3 8)),
 AV.t (tI (cI p240 3 9)),AV.t (Tree.bool (cB p240 3 10)),AV.sref (0:Nat) (AD p240 3 11) (AE p240 3 11) (AB p240 3 11),AV.sref (1:Nat) (AD p240 3 12) (AE p240 3 12) (AB p240 3 12),
 AV.sref (2:Nat) (AD p240 3 13) (AE p240 3 13) (AB p240 3 13)],AA.box [AV.ptr (3:Nat) (0:Nat)],AA.row false (AF p240 5) (4:Nat) (oEs p240 5),AA.box [AV.sref (5:Nat) (AD p240 6 0)
 (AE p240 6 0) (AB p240 6 0)],AA.row false (AF p240 7) (4:Nat) (oEs p240 7),AA.box [AV.sref (7:Nat) (AD p240 8 0) (AE p240 8 0) (AB p240 8 0)],AA.box [AV.ptr (3:Nat) (0:Nat)],
 AA.box [AV.t (tI (cI p240 10 0))],AA.box [AV.t (Tree.bool (cB p240 11 0))],AA.box [],AA.box [AV.ptr (3:Nat) (0:Nat)],AA.box [],AA.box [],AA.box [],AA.box []])) none) none)
 (again251 ([AV.t (tI (vI p240 2))],[AA.row false (AF p240 0) (1:Nat) (oEs p240 0),AA.row false (AF p240 1) (1:Nat) (oEs p240 1),AA.row false (AF p240 2) (1:Nat) (oEs p240 2),AA.box
 [AV.t (Tree.sl (1:Nat) (cL p240 3 0)),AV.t (Tree.sl (7:Nat) (cL p240 3 1)),AV.t (Tree.sl (4:Nat) (cL p240 3 2)),AV.t (Tree.sl (5:Nat) (cL p240 3 3)),AV.t (tI (cI p240 3 4)),AV.t (tI (cI p240 3
 5)),AV.t (tI (cI p240 3 6)),AV.t (tI (cI p240 3 7)),AV.t (tI (cI p240 3 8)),AV.t (tI (cI p240 3 9)),AV.t (Tree.bool (cB p240 3 10)),AV.sref (0:Nat) (AD p240 3 11) (AE p240 3 11) (AB p240 3
 11),AV.sref (1:Nat) (AD p240 3 12) (AE p240 3 12) (AB p240 3 12),AV.sref (2:Nat) (AD p240 3 13) (AE p240 3 13) (AB p240 3 13)],AA.box [AV.ptr (3:Nat) (0:Nat)],AA.row false (AF
 p240 5) (4:Nat) (oEs p240 5),AA.box [AV.sref (5:Nat) (AD p240 6 0) (AE p240 6 0) (AB p240 6 0)],AA.row false (AF p240 7) (4:Nat) (oEs p240 7),AA.box [AV.sref (7:Nat) (AD p240 8 0)
 (AE p240 8 0) (AB p240 8 0)],AA.box [AV.ptr (3:Nat) (0:Nat)],AA.box [AV.t (tI (cI p240 10 0))],AA.box [AV.t (Tree.bool (cB p240 11 0))],AA.box [],AA.box [AV.ptr (3:Nat) (0:Nat)],
 AA.box [],AA.box [],AA.box [],AA.box []])))
noncomputable def No (n:Nat) (again236:(List AV×Heap)→Option (List Tree)) (p235:List AV×Heap) (p237:List AV×Heap):Option (List Tree):=
 again236 ([AV.t (tI (w64 ((vI p235 0)+(1:Int))))],[AA.row false (AF p237 0) (1:Nat) (oEs p237 0),AA.row false (AF p237 1) (1:Nat) (oEs p237 1),AA.row false (AF p237 2) (1:Nat) (oEs
 p237 2),AA.box [AV.t (Tree.sl (1:Nat) (cL p237 3 0)),AV.t (Tree.sl (7:Nat) (cL p237 3 1)),AV.t (Tree.sl (4:Nat) (cL p237 3 2)),AV.t (Tree.sl (5:Nat) (cL p237 3 3)),AV.t (tI (cI p237 3 4)),AV.t
 (tI (cI p237 3 5)),AV.t (tI (cI p237 3 6)),AV.t (tI (cI p237 3 7)),AV.t (tI (cI p237 3 8)),AV.t (tI (cI p237 3 9)),AV.t (Tree.bool (cB p237 3 10)),AV.sref (0:Nat) (AD p237 3 11) (AE p237 3
 11) (AB p237 3 11),AV.sref (1:Nat) (AD p237 3 12) (AE p237 3 12) (AB p237 3 12),AV.sref (2:Nat) (AD p237 3 13) (AE p237 3 13) (AB p237 3 13)],AA.box [AV.ptr (3:Nat) (0:Nat)],
 AA.row false (AF p237 5) (4:Nat) (oEs p237 5),AA.box [AV.sref (5:Nat) (AD p237 6 0) (AE p237 6 0) (AB p237 6 0)],AA.row false (AF p237 7) (4:Nat) (oEs p237 7),AA.box [AV.sref
 (7:Nat) (AD p237 8 0) (AE p237 8 0) (AB p237 8 0)],AA.box [AV.ptr (3:Nat) (0:Nat)],AA.box [AV.t (tI (cI p237 10 0))],AA.box [AV.t (Tree.bool (cB p237 11 0))],AA.box [],AA.box
 [AV.ptr (3:Nat) (0:Nat)],AA.box [],AA.box []])
noncomputable def La (n:Nat) (y234:List Tree) (y211:List Tree) (y206:List Tree) (p207:List AV×Heap) (again210:(List AV×Heap)→Option (List Tree)) (p235:List AV×Heap) (again236:(List AV×Heap)→Option (List Tree)):Option (List Tree):=
 cnd (decide (vI p235 0<((length (gL y234 0):Nat):Int))=true) (join (fun (p237:List AV×Heap)=>No n again236 p235 p237) fun (again238:_→Option (List Tree))=>cnd ((2:Nat)=
 (2:Nat)∧(0:Int)≤vI p235 0) (Option.bind (gL y234 0)[toNat (vI p235 0)]? fun y239=>cnd (okI y239 0) (cnd (okI y239 1) (join (fun (p240:List AV×Heap)=>HY n again238 y211 y206 y239
 p240) fun (again241:_→Option (List Tree))=>cnd (AF p235 2=AD p235 3 13∧(1:Nat)=(1:Nat)∧(0:Int)≤vI p207 0∧vI p207 0<((AB p235 3 13:Nat):Int)) (cnd (AF p235 2=AD p235 3
 13) (Option.bind (oEs p235 2)[(AE p235 3 13)+(toNat (vI p207 0))]? fun y242=>cnd (okI y242 0) (cnd (AF p235 0=AD p235 3 11∧(1:Nat)=(1:Nat)∧(0:Int)≤vI p207 0∧vI p207 0 <
 ((AB p235 3 11:Nat):Int)) (cnd (AF p235 0=AD p235 3 11) (Option.bind (oEs p235 0)[(AE p235 3 11)+(toNat (vI p207 0))]? fun y243=>cnd (okL 2 y243 0) (AO (fun (p244:List AV ×
 Heap) (again245:_→Option (List Tree))=>Nj n y243 y239 y206 y242 p207 again241 p244 again245) n ([AV.t (tI (0:Int))],[AA.row false (AF p235 0) (1:Nat) (oEs p235 0),AA.row false (AF
 p235 1) (1:Nat) (oEs p235 1),AA.row false (AF p235 2) (1:Nat) (oEs p235 2),AA.box [AV.t (Tree.sl (1:Nat) (cL p235 3 0)),AV.t (Tree.sl (7:Nat) (cL p235 3 1)),AV.t (Tree.sl (4:Nat) (cL p235 3
 2)),AV.t (Tree.sl (5:Nat) (cL p235 3 3)),AV.t (tI (cI p235 3 4)),AV.t (tI (cI p235 3 5)),AV.t (tI (cI p235 3 6)),AV.t (tI (cI p235 3 7)),AV.t (tI (cI p235 3 8)),AV.t (tI (cI p235 3 9)),AV.t
 (Tree.bool (cB p235 3 10)),AV.sref (0:Nat) (AD p235 3 11) (AE p235 3 11) (AB p235 3 11),AV.sref (1:Nat) (AD p235 3 12) (AE p235 3 12) (AB p235 3 12),AV.sref (2:Nat) (AD p235 3 13)
 (AE p235 3 13) (AB p235 3 13)],AA.box [AV.ptr (3:Nat) (0:Nat)],AA.row false (AF p235 5) (4:Nat) (oEs p235 5),AA.box [AV.sref (5:Nat) (AD p235 6 0) (AE p235 6 0) (AB p235 6 0)],
 AA.row false (AF p235 7) (4:Nat) (oEs p235 7),AA.box [AV.sref (7:Nat) (AD p235 8 0) (AE p235 8 0) (AB p235 8 0)],AA.box [AV.ptr (3:Nat) (0:Nat)],AA.box [AV.t (tI (cI p235 10 0))],
 AA.box [AV.t (Tree.bool (cB p235 11 0))],AA.box [],AA.box [AV.ptr (3:Nat) (0:Nat)],AA.box [],AA.box [],AA.box [],AA.box [AV.t (tI (0:Int)),AV.t (tI (0:Int)),AV.t (tI (0:Int)),
 AV.t (tI (0:Int))]])) none) none) none) none) none) none) none) none) none) (again210 ([],[AA.row false (AF p235 0) (1:Nat) (oEs p235 0),AA.row false (AF p235 1) (1:Nat) (oEs p235 1),
 AA.row false (AF p235 2) (1:Nat) (oEs p235 2),AA.box [AV.t (Tree.sl (1:Nat) (cL p235 3 0)),AV.t (Tree.sl (7:Nat) (cL p235 3 1)),AV.t (Tree.sl (4:Nat) (cL p235 3 2)),AV.t (Tree.sl (5:Nat) (cL
 p235 3 3)),AV.t (tI (cI p235 3 4)),AV.t (tI (cI p235 3 5)),AV.t (tI (cI p235 3 6)),AV.t (tI (cI p235 3 7)),AV.t (tI (cI p235 3 8)),AV.t (tI (cI p235 3 9)),AV.t (Tree.bool (cB p235 3 10)),
 AV.sref (0:Nat) (AD p235 3 11) (AE p235 3 11) (AB p235 3 11),AV.sref (1:Nat) (AD p235 3 12) (AE p235 3 12) (AB p235 3 12),AV.sref (2:Nat) (AD p235 3 13) (AE p235 3 13) (AB p235 3
 13)],AA.box [AV.ptr (3:Nat) (0:Nat)],AA.row false (AF p235 5) (4:Nat) (oEs p235 5),AA.box [AV.sref (5:Nat) (AD p235 6 0) (AE p235 6 0) (AB p235 6 0)],AA.row false (AF p235 7)
 (4:Nat) (oEs p235 7),AA.box [AV.sref (7:Nat) (AD p235 8 0) (AE p235 8 0) (AB p235 8 0)],AA.box [AV.ptr (3:Nat) (0:Nat)],AA.box [AV.t (tI (cI p235 10 0))],AA.box [AV.t (Tree.bool (cB
 p235 11 0))],AA.box [],AA.box [AV.ptr (3:Nat) (0:Nat)],AA.box []]))
noncomputable def JI (n:Nat) (again208:(List AV×Heap)→Option (List Tree)) (p207:List AV×Heap) (p209:List AV×Heap):Option (List Tree):=
 again208 ([AV.t (tI (w64 ((vI p207 0)+(1:Int))))],[AA.row false (AF p209 0) (1:Nat) (oEs p209 0),AA.row false (AF p209 1) (1:Nat) (oEs p209 1),AA.row false (AF p209 2) (1:Nat) (oEs
 p209 2),AA.box [AV.t (Tree.sl (1:Nat) (cL p209 3 0)),AV.t (Tree.sl (7:Nat) (cL p209 3 1)),AV.t (Tree.sl (4:Nat) (cL p209 3 2)),AV.t (Tree.sl (5:Nat) (cL p209 3 3)),AV.t (tI (cI p209 3 4)),AV.t
 (tI (cI p209 3 5)),AV.t (tI (cI p209 3 6)),AV.t (tI (cI p209 3 7)),AV.t (tI (cI p209 3 8)),AV.t (tI (cI p209 3 9)),AV.t (Tree.bool (cB p209 3 10)),AV.sref (0:Nat) (AD p209 3 11) (AE p209 3
 11) (AB p209 3 11),AV.sref (1:Nat) (AD p209 3 12) (AE p209 3 12) (AB p209 3 12),AV.sref (2:Nat) (AD p209 3 13) (AE p209 3 13) (AB p209 3 13)],AA.box [AV.ptr (3:Nat) (0:Nat)],
 AA.row false (AF p209 5) (4:Nat) (oEs p209 5),AA.box [AV.sref (5:Nat) (AD p209 6 0) (AE p209 6 0) (AB p209 6 0)],AA.row false (AF p209 7) (4:Nat) (oEs p209 7),AA.box [AV.sref
 (7:Nat) (AD p209 8 0) (AE p209 8 0) (AB p209 8 0)],AA.box [AV.ptr (3:Nat) (0:Nat)],AA.box [AV.t (tI (cI p209 10 0))],AA.box [AV.t (Tree.bool (cB p209 11 0))],AA.box [],AA.box
 [AV.ptr (3:Nat) (0:Nat)],AA.box []])
noncomputable def JG (n:Nat) (p204:List AV×Heap) (y206:List Tree) (again205:(List AV×Heap)→Option (List Tree)) (p207:List AV×Heap) (again208:(List AV×Heap)→Option (List Tree)):Option (List Tree):=
 cnd (decide (vI p207 0<((length (cL p204 3 1):Nat):Int))=true) (join (fun (p209:List AV×Heap)=>JI n again208 p207 p209) fun (again210:_→Option (List Tree))=>cnd ((7:Nat)=
 (7:Nat)∧(0:Int)≤vI p207 0) (Option.bind (cL p204 3 1)[toNat (vI p207 0)]? fun y211=>cnd (okI y211 0) (cnd (okI y211 1) (cnd (okI y211 2) (cnd (okI y211 3) (cnd (okI y211 4) (cnd (okI y211 5)
 (cnd (okI y211 6) (cnd (((gI y211 0) != (gI y206 0))=true) (again210 ([],[AA.row false (AF p207 0) (1:Nat) (oEs p207 0),AA.row false (AF p207 1) (1:Nat) (oEs p207 1),AA.row false (AF
 p207 2) (1:Nat) (oEs p207 2),AA.box [AV.t (Tree.sl (1:Nat) (cL p207 3 0)),AV.t (Tree.sl (7:Nat) (cL p207 3 1)),AV.t (Tree.sl (4:Nat) (cL p207 3 2)),AV.t (Tree.sl (5:Nat) (cL p207 3 3)),AV.t (tI
 (cI p207 3 4)),AV.t (tI (cI p207 3 5)),AV.t (tI (cI p207 3 6)),AV.t (tI (cI p207 3 7)),AV.t (tI (cI p207 3 8)),AV.t (tI (cI p207 3 9)),AV.t (Tree.bool (cB p207 3 10)),AV.sref (0:Nat) (AD p207
 3 11) (AE p207 3 11) (AB p207 3 11),AV.sref (1:Nat) (AD p207 3 12) (AE p207 3 12) (AB p207 3 12),AV.sref (2:Nat) (AD p207 3 13) (AE p207 3 13) (AB p207 3 13)],AA.box [AV.ptr
 (3:Nat) (0:Nat)],AA.row false (AF p207 5) (4:Nat) (oEs p207 5),AA.box [AV.sref (5:Nat) (AD p207 6 0) (AE p207 6 0) (AB p207 6 0)],AA.row false (AF p207 7) (4:Nat) (oEs p207 7),
 AA.box [AV.sref (7:Nat) (AD p207 8 0) (AE p207 8 0) (AB p207 8 0)],AA.box [AV.ptr (3:Nat) (0:Nat)],AA.box [AV.t (tI (cI p207 10 0))],AA.box [AV.t (Tree.bool (cB p207 11 0))],AA.box
 [],AA.box [AV.ptr (3:Nat) (0:Nat)],AA.box []])) (cnd (((gI y211 1)==(cI p207 3 5))=true) (AO (fun (p212:List AV×Heap) (again213:_→Option (List Tree))=>Uj n y211 y206 p207
 again210 p212 again213) n ([AV.t (tI (0:Int))],[AA.row false (AF p207 0) (1:Nat) (oEs p207 0),AA.row false (AF p207 1) (1:Nat) (oEs p207 1),AA.row false (AF p207 2) (1:Nat) (oEs p207
 2),AA.box [AV.t (Tree.sl (1:Nat) (cL p207 3 0)),AV.t (Tree.sl (7:Nat) (cL p207 3 1)),AV.t (Tree.sl (4:Nat) (cL p207 3 2)),AV.t (Tree.sl (5:Nat) (cL p207 3 3)),AV.t (tI (cI p207 3 4)),AV.t (tI
 (cI p207 3 5)),AV.t (tI (cI p207 3 6)),AV.t (tI (cI p207 3 7)),AV.t (tI (cI p207 3 8)),AV.t (tI (cI p207 3 9)),AV.t (Tree.bool (cB p207 3 10)),AV.sref (0:Nat) (AD p207 3 11) (AE p207 3 11)
 (AB p207 3 11),AV.sref (1:Nat) (AD p207 3 12) (AE p207 3 12) (AB p207 3 12),AV.sref (2:Nat) (AD p207 3 13) (AE p207 3 13) (AB p207 3 13)],AA.box [AV.ptr (3:Nat) (0:Nat)],AA.row
 false (AF p207 5) (4:Nat) (oEs p207 5),AA.box [AV.sref (5:Nat) (AD p207 6 0) (AE p207 6 0) (AB p207 6 0)],AA.row false (AF p207 7) (4:Nat) (oEs p207 7),AA.box [AV.sref (7:Nat) (AD
 p207 8 0) (AE p207 8 0) (AB p207 8 0)],AA.box [AV.ptr (3:Nat) (0:Nat)],AA.box [AV.t (tI (cI p207 10 0))],AA.box [AV.t (Tree.bool (cB p207 11 0))],AA.box [],AA.box [AV.ptr (3:Nat)
 (0:Nat)],AA.box [],AA.box []])) (cnd (AF p207 1=AD p207 3 12∧(1:Nat)=(1:Nat)∧(0:Int)≤gI y211 1∧gI y211 1<((AB p207 3 12:Nat):Int)) (cnd (AF p207 1=AD p207 3 12)
 (Option.bind (oEs p207 1)[(AE p207 3 12)+(toNat (gI y211 1))]? fun y234=>cnd (okL 2 y234 0) (AO (fun (p235:List AV×Heap) (again236:_→Option (List Tree))=>La n y234 y211
 y206 p207 again210 p235 again236) n ([AV.t (tI (0:Int))],[AA.row false (AF p207 0) (1:Nat) (oEs p207 0),AA.row false (AF p207 1) (1:Nat) (oEs p207 1),AA.row false (AF p207 2) (1:Nat)
 (oEs p207 2),AA.box [AV.t (Tree.sl (1:Nat) (cL p207 3 0)),AV.t (Tree.sl (7:Nat) (cL p207 3 1)),AV.t (Tree.sl (4:Nat) (cL p207 3 2)),AV.t (Tree.sl (5:Nat) (cL p207 3 3)),AV.t (tI (cI p207 3 4)),
 AV.t (tI (cI p207 3 5)),AV.t (tI (cI p207 3 6)),AV.t (tI (cI p207 3 7)),AV.t (tI (cI p207 3 8)),AV.t (tI (cI p207 3 9)),AV.t (Tree.bool (cB p207 3 10)),AV.sref (0:Nat) (AD p207 3 11) (AE
 p207 3 11) (AB p207 3 11),AV.sref (1:Nat) (AD p207 3 12) (AE p207 3 12) (AB p207 3 12),AV.sref (2:Nat) (AD p207 3 13) (AE p207 3 13) (AB p207 3 13)],AA.box [AV.ptr (3:Nat) (0:Nat)],
 AA.row false (AF p207 5) (4:Nat) (oEs p207 5),AA.box [AV.sref (5:Nat) (AD p207 6 0) (AE p207 6 0) (AB p207 6 0)],AA.row false (AF p207 7) (4:Nat) (oEs p207 7),AA.box [AV.sref
 (7:Nat) (AD p207 8 0) (AE p207 8 0) (AB p207 8 0)],AA.box [AV.ptr (3:Nat) (0:Nat)],AA.box [AV.t (tI (cI p207 10 0))],AA.box [AV.t (Tree.bool (cB p207 11 0))],AA.box [],AA.box
 [AV.ptr (3:Nat) (0:Nat)],AA.box [],AA.box []])) none) none) none))) none) none) none) none) none) none) none) none) (again205 ([AV.t (tI (w64 ((vI p204 0)+(1:Int))))],[AA.row false (AF
 p207 0) (1:Nat) (oEs p207 0),AA.row false (AF p207 1) (1:Nat) (oEs p207 1),AA.row false (AF p207 2) (1:Nat) (oEs p207 2),AA.box [AV.t (Tree.sl (1:Nat) (cL p207 3 0)),AV.t (Tree.sl
 (7:Nat) (cL p207 3 1)),AV.t (Tree.sl (4:Nat) (cL p207 3 2)),AV.t (Tree.sl (5:Nat) (cL p207 3 3)),AV.t (tI (cI p207 3 4)),AV.t (tI (cI p207 3 5)),AV.t (tI (cI p207 3 6)),AV.t (tI (cI p207 3 7)),
 AV.t (tI (cI p207 3 8)),AV.t (tI (cI p207 3 9)),AV.t (Tree.bool (cB p207 3 10)),AV.sref (0:Nat) (AD p207 3 11) (AE p207 3 11) (AB p207 3 11),AV.sref (1:Nat) (AD p207 3 12) (AE p207 3 12)
 (AB p207 3 12),AV.sref (2:Nat) (AD p207 3 13) (AE p207 3 13) (AB p207 3 13)],AA.box [AV.ptr (3:Nat) (0:Nat)],AA.row false (AF p207 5) (4:Nat) (oEs p207 5),AA.box [AV.sref (5:Nat)
 (AD p207 6 0) (AE p207 6 0) (AB p207 6 0)],AA.row false (AF p207 7) (4:Nat) (oEs p207 7),AA.box [AV.sref (7:Nat) (AD p207 8 0) (AE p207 8 0) (AB p207 8 0)],AA.box [AV.ptr
 (3:Nat) (0:Nat)],AA.box [AV.t (tI (cI p207 10 0))],AA.box [AV.t (Tree.bool (cB p207 11 0))]]))
noncomputable def Ni (n:Nat) (p31:List AV×Heap) (again203:(List AV×Heap)→Option (List Tree)) (p204:List AV×Heap) (again205:(List AV×Heap)→Option (List Tree)):Option (List Tree):=
 cnd (decide (vI p204 0<((AB p31 6 0:Nat):Int))=true) (cnd (AF p204 5=AD p31 6 0∧(4:Nat)=(4:Nat)∧(0:Int)≤vI p204 0∧vI p204 0<((AB p31 6 0:Nat):Int)) (cnd (AF p204 5=AD
 p31 6 0) (Option.bind (oEs p204 5)[(AE p31 6 0)+(toNat (vI p204 0))]? fun y206=>cnd (okI y206 0) (cnd (okI y206 1) (cnd (okI y206 2) (cnd (okI y206 3) (AO (fun (p207:List AV×Heap)
 (again208:_→Option (List Tree))=>JG n p204 y206 again205 p207 again208) n ([AV.t (tI (0:Int))],[AA.row false (AF p204 0) (1:Nat) (oEs p204 0),AA.row false (AF p204 1) (1:Nat) (oEs
 p204 1),AA.row false (AF p204 2) (1:Nat) (oEs p204 2),AA.box [AV.t (Tree.sl (1:Nat) (cL p204 3 0)),AV.t (Tree.sl (7:Nat) (cL p204 3 1)),AV.t (Tree.sl (4:Nat) (cL p204 3 2)),AV.t (Tree.sl
 (5:Nat) (cL p204 3 3)),AV.t (tI (cI p204 3 4)),AV.t (tI (cI p204 3 5)),AV.t (tI (cI p204 3 6)),AV.t (tI (cI p204 3 7)),AV.t (tI (cI p204 3 8)),AV.t (tI (cI p204 3 9)),AV.t (Tree.bool (cB p204 3
 10)),AV.sref (0:Nat) (AD p204 3 11) (AE p204 3 11) (AB p204 3 11),AV.sref (1:Nat) (AD p204 3 12) (AE p204 3 12) (AB p204 3 12),AV.sref (2:Nat) (AD p204 3 13) (AE p204 3 13) (AB
 p204 3 13)],AA.box [AV.ptr (3:Nat) (0:Nat)],AA.row false (AF p204 5) (4:Nat) (oEs p204 5),AA.box [AV.sref (5:Nat) (AD p204 6 0) (AE p204 6 0) (AB p204 6 0)],AA.row false (AF p204
 7) (4:Nat) (oEs p204 7),AA.box [AV.sref (7:Nat) (AD p204 8 0) (AE p204 8 0) (AB p204 8 0)],AA.box [AV.ptr (3:Nat) (0:Nat)],AA.box [AV.t (tI (cI p204 10 0))],AA.box [AV.t (Tree.bool
 (cB p204 11 0))],AA.box [],AA.box [AV.ptr (3:Nat) (0:Nat)],AA.box []])) none) none) none) none) none) none) (again203 ([AV.t (tI (cI p204 10 0)),AV.t (Tree.bool (cB p204 11 0))],[AA.row
 false (AF p204 0) (1:Nat) (oEs p204 0),AA.row false (AF p204 1) (1:Nat) (oEs p204 1),AA.row false (AF p204 2) (1:Nat) (oEs p204 2),AA.box [AV.t (Tree.sl (1:Nat) (cL p204 3 0)),AV.t
 (Tree.sl (7:Nat) (cL p204 3 1)),AV.t (Tree.sl (4:Nat) (cL p204 3 2)),AV.t (Tree.sl (5:Nat) (cL p204 3 3)),AV.t (tI (cI p204 3 4)),AV.t (tI (cI p204 3 5)),AV.t (tI (cI p204 3 6)),AV.t (tI (cI
 p204 3 7)),AV.t (tI (cI p204 3 8)),AV.t (tI (cI p204 3 9)),AV.t (Tree.bool (cB p204 3 10)),AV.sref (0:Nat) (AD p204 3 11) (AE p204 3 11) (AB p204 3 11),AV.sref (1:Nat) (AD p204 3 12)
 (AE p204 3 12) (AB p204 3 12),AV.sref (2:Nat) (AD p204 3 13) (AE p204 3 13) (AB p204 3 13)],AA.box [AV.ptr (3:Nat) (0:Nat)],AA.row false (AF p204 5) (4:Nat) (oEs p204 5),AA.box
 [AV.sref (5:Nat) (AD p204 6 0) (AE p204 6 0) (AB p204 6 0)],AA.row false (AF p204 7) (4:Nat) (oEs p204 7),AA.box [AV.sref (7:Nat) (AD p204 8 0) (AE p204 8 0) (AB p204 8 0)]]))
noncomputable def Nn (n:Nat)  (p202:List AV×Heap):Option (List Tree):=
 cnd ((!(vB p202 1))=true) (some [tI (0:Int),tI (18:Int)]) (some [tI (vI p202 0),tI (0:Int)])
noncomputable def Nh (n:Nat)  (p31:List AV×Heap) (again32:(List AV×Heap)→Option (List Tree)):Option (List Tree):=
 cnd (AF p31 7=AD p31 8 0) (cnd (decide (((AB p31 8 0:Nat):Int)>(0:Int))=true) (join (fun (p33:List AV×Heap)=>Nq n again32 p33) fun (again34:_→Option (List Tree))=>cnd (AF
 p31 7=AD p31 8 0) (cnd (decide (((AB p31 8 0:Nat):Int)<(1:Int))=true) none (cnd (AF p31 7=AD p31 8 0∧(4:Nat)=(4:Nat)∧(0:Int)≤(0:Int)∧(0:Int)<((AB p31 8 0:Nat):Int)) (cnd
 (AF p31 7=AD p31 8 0) (Option.bind (oEs p31 7)[AE p31 8 0]? fun y37=>cnd (okI y37 0) (cnd (okI y37 1) (cnd (okI y37 2) (cnd (okI y37 3) (AO (fun (p38:List AV×Heap) (again39:_→
 Option (List Tree))=>Rf n p31 again34 p38 again39) n ([AV.t (tI (1:Int))],[AA.row false (AF p31 0) (1:Nat) (oEs p31 0),AA.row false (AF p31 1) (1:Nat) (oEs p31 1),AA.row false (AF
 p31 2) (1:Nat) (oEs p31 2),AA.box [AV.t (Tree.sl (1:Nat) (cL p31 3 0)),AV.t (Tree.sl (7:Nat) (cL p31 3 1)),AV.t (Tree.sl (4:Nat) (cL p31 3 2)),AV.t (Tree.sl (5:Nat) (cL p31 3 3)),AV.t (tI (cI
 p31 3 4)),AV.t (tI (cI p31 3 5)),AV.t (tI (cI p31 3 6)),AV.t (tI (cI p31 3 7)),AV.t (tI (cI p31 3 8)),AV.t (tI (cI p31 3 9)),AV.t (Tree.bool (cB p31 3 10)),AV.sref (0:Nat) (AD p31 3 11) (AE
 p31 3 11) (AB p31 3 11),AV.sref (1:Nat) (AD p31 3 12) (AE p31 3 12) (AB p31 3 12),AV.sref (2:Nat) (AD p31 3 13) (AE p31 3 13) (AB p31 3 13)],AA.box [AV.ptr (3:Nat) (0:Nat)],
 AA.row false (AF p31 5) (4:Nat) (oEs p31 5),AA.box [AV.sref (5:Nat) (AD p31 6 0) (AE p31 6 0) (AB p31 6 0)],AA.row false (AF p31 7) (4:Nat) (oEs p31 7),AA.box [AV.sref (7:Nat)
 (AD p31 8 0) (AE p31 8 0) (AB p31 8 0)],AA.box [AV.t (tI (0:Int)),AV.t (tI (0:Int)),AV.t (tI (0:Int)),AV.t (tI (0:Int))],AA.box [AV.t (tI (gI y37 0)),AV.t (tI (gI y37 1)),AV.t (tI (gI
 y37 2)),AV.t (tI (gI y37 3))]])) none) none) none) none) none) none)) none) (cnd (AF p31 5=AD p31 6 0∧(4:Nat)=(4:Nat)∧(AE p31 6 0)+(AB p31 6 0)≤length (oEs p31 5)∧AB p31
 6 0≤(1073741824:Nat)∧Av (4:Nat) (take (AB p31 6 0) (drop (AE p31 6 0) (oEs p31 5)))=true) (join (fun (p202:List AV×Heap)=>Nn n p202) fun (again203:_→Option (List
 Tree))=>cnd (AD p31 6 0=AD p31 6 0) (AO (fun (p204:List AV×Heap) (again205:_→Option (List Tree))=>Ni n p31 again203 p204 again205) n ([AV.t (tI (0:Int))],[AA.row false
 (AF p31 0) (1:Nat) (oEs p31 0),AA.row false (AF p31 1) (1:Nat) (oEs p31 1),AA.row false (AF p31 2) (1:Nat) (oEs p31 2),AA.box [AV.t (Tree.sl (1:Nat) (cL p31 3 0)),AV.t (Tree.sl (7:Nat)
 (cL p31 3 1)),AV.t (Tree.sl (4:Nat) (cL p31 3 2)),AV.t (Tree.sl (5:Nat) (cL p31 3 3)),AV.t (tI (cI p31 3 4)),AV.t (tI (cI p31 3 5)),AV.t (tI (cI p31 3 6)),AV.t (tI (cI p31 3 7)),AV.t (tI (cI
 p31 3 8)),AV.t (tI (cI p31 3 9)),AV.t (Tree.bool (cB p31 3 10)),AV.sref (0:Nat) (AD p31 3 11) (AE p31 3 11) (AB p31 3 11),AV.sref (1:Nat) (AD p31 3 12) (AE p31 3 12) (AB p31 3 12),
 AV.sref (2:Nat) (AD p31 3 13) (AE p31 3 13) (AB p31 3 13)],AA.box [AV.ptr (3:Nat) (0:Nat)],AA.row false (AD p31 6 0) (4:Nat) (A0 (oEs p31 5) (AE p31 6 0) ((Fo (BL [3,0,1]))
 (take (AB p31 6 0) (drop (AE p31 6 0) (oEs p31 5))))),AA.box [AV.sref (5:Nat) (AD p31 6 0) (AE p31 6 0) (AB p31 6 0)],AA.row false (AF p31 7) (4:Nat) (oEs p31 7),AA.box
 [AV.sref (7:Nat) (AD p31 8 0) (AE p31 8 0) (AB p31 8 0)],AA.box [AV.ptr (3:Nat) (0:Nat)],AA.box [AV.t (tI (0:Int))],AA.box [AV.t (Tree.bool false)]])) none) none)) none
noncomputable def JF (n:Nat) (y23:List Tree) (p24:List AV×Heap) (again25:(List AV×Heap)→Option (List Tree)):Option (List Tree):=
 cnd (decide (vI p24 0<((length (gL y23 0):Nat):Int))=true) (cnd ((2:Nat)=(2:Nat)∧(0:Int)≤vI p24 0) (Option.bind (gL y23 0)[toNat (vI p24 0)]? fun y26=>cnd (okI y26 0) (cnd (okI
 y26 1) (join (fun (p27:List AV×Heap)=>Rg n again25 p24 y26 p27) fun (again28:_→Option (List Tree))=>cnd (decide (gI y26 0≤cI p24 3 7)=true) (again28 ([AV.t (Tree.bool (decide (cI
 p24 3 7<gI y26 1)))],[AA.row false (AF p24 0) (1:Nat) (oEs p24 0),AA.row false (AF p24 1) (1:Nat) (oEs p24 1),AA.row false (AF p24 2) (1:Nat) (oEs p24 2),AA.box [AV.t (Tree.sl
 (1:Nat) (cL p24 3 0)),AV.t (Tree.sl (7:Nat) (cL p24 3 1)),AV.t (Tree.sl (4:Nat) (cL p24 3 2)),AV.t (Tree.sl (5:Nat) (cL p24 3 3)),AV.t (tI (cI p24 3 4)),AV.t (tI (cI p24 3 5)),AV.t (tI (cI p24 3
 6)),AV.t (tI (cI p24 3 7)),AV.t (tI (cI p24 3 8)),AV.t (tI (cI p24 3 9)),AV.t (Tree.bool (cB p24 3 10)),AV.sref (0:Nat) (AD p24 3 11) (AE p24 3 11) (AB p24 3 11),AV.sref (1:Nat) (AD p24
 3 12) (AE p24 3 12) (AB p24 3 12),AV.sref (2:Nat) (AD p24 3 13) (AE p24 3 13) (AB p24 3 13)],AA.box [AV.ptr (3:Nat) (0:Nat)],AA.row false (AF p24 5) (4:Nat) (oEs p24 5),AA.box
 [AV.sref (5:Nat) (AD p24 6 0) (AE p24 6 0) (AB p24 6 0)],AA.row false (AF p24 7) (4:Nat) (oEs p24 7),AA.box [AV.sref (7:Nat) (AD p24 8 0) (AE p24 8 0) (AB p24 8 0)],AA.box []]))
 (again28 ([AV.t (Tree.bool false)],[AA.row false (AF p24 0) (1:Nat) (oEs p24 0),AA.row false (AF p24 1) (1:Nat) (oEs p24 1),AA.row false (AF p24 2) (1:Nat) (oEs p24 2),AA.box [AV.t
 (Tree.sl (1:Nat) (cL p24 3 0)),AV.t (Tree.sl (7:Nat) (cL p24 3 1)),AV.t (Tree.sl (4:Nat) (cL p24 3 2)),AV.t (Tree.sl (5:Nat) (cL p24 3 3)),AV.t (tI (cI p24 3 4)),AV.t (tI (cI p24 3 5)),AV.t (tI
 (cI p24 3 6)),AV.t (tI (cI p24 3 7)),AV.t (tI (cI p24 3 8)),AV.t (tI (cI p24 3 9)),AV.t (Tree.bool (cB p24 3 10)),AV.sref (0:Nat) (AD p24 3 11) (AE p24 3 11) (AB p24 3 11),AV.sref (1:Nat)
 (AD p24 3 12) (AE p24 3 12) (AB p24 3 12),AV.sref (2:Nat) (AD p24 3 13) (AE p24 3 13) (AB p24 3 13)],AA.box [AV.ptr (3:Nat) (0:Nat)],AA.row false (AF p24 5) (4:Nat) (oEs p24 5),
 AA.box [AV.sref (5:Nat) (AD p24 6 0) (AE p24 6 0) (AB p24 6 0)],AA.row false (AF p24 7) (4:Nat) (oEs p24 7),AA.box [AV.sref (7:Nat) (AD p24 8 0) (AE p24 8 0) (AB p24 8 0)],
 AA.box []]))) none) none) none) (AO (fun (p31:List AV×Heap) (again32:_→Option (List Tree))=>Nh n p31 again32) n ([],[AA.row false (AF p24 0) (1:Nat) (oEs p24 0),AA.row
 false (AF p24 1) (1:Nat) (oEs p24 1),AA.row false (AF p24 2) (1:Nat) (oEs p24 2),AA.box [AV.t (Tree.sl (1:Nat) (cL p24 3 0)),AV.t (Tree.sl (7:Nat) (cL p24 3 1)),AV.t (Tree.sl (4:Nat) (cL
 p24 3 2)),AV.t (Tree.sl (5:Nat) (cL p24 3 3)),AV.t (tI (cI p24 3 4)),AV.t (tI (cI p24 3 5)),AV.t (tI (cI p24 3 6)),AV.t (tI (cI p24 3 7)),AV.t (tI (cI p24 3 8)),AV.t (tI (cI p24 3 9)),AV.t
 (Tree.bool (cB p24 3 10)),AV.sref (0:Nat) (AD p24 3 11) (AE p24 3 11) (AB p24 3 11),AV.sref (1:Nat) (AD p24 3 12) (AE p24 3 12) (AB p24 3 12),AV.sref (2:Nat) (AD p24 3 13) (AE p24 3
 13) (AB p24 3 13)],AA.box [AV.ptr (3:Nat) (0:Nat)],AA.row false (AF p24 5) (4:Nat) (oEs p24 5),AA.box [AV.sref (5:Nat) (AD p24 6 0) (AE p24 6 0) (AB p24 6 0)],AA.row false (AF
 p24 7) (4:Nat) (oEs p24 7),AA.box [AV.sref (7:Nat) (AD p24 8 0) (AE p24 8 0) (AB p24 8 0)]]))
noncomputable def Ng (n:Nat) (a0:List (List Tree)) (a1:List (List Tree)) (a3:List (List Tree)) (a6:Int) (p20:List AV×Heap) (again21:(List AV×Heap)→Option (List Tree)):Option (List Tree):=
 cnd (decide (vI p20 0<((length a0:Nat):Int))=true) (Option.bind (AM C n (85:Nat) [Tree.sl (1:Nat) a0,Tree.sl (7:Nat) a1,Tree.sl (5:Nat) a3,tI (vI p20 0),tI a6]) fun y22=>cnd
 (length y22=(2:Nat)) (cnd (okL 2 y22 0) (cnd (okI y22 1) (cnd (AF p20 1=AD p20 3 12∧((1:Nat)=(1:Nat)∨(1:Nat)=(0:Nat))∧(AE p20 3 12)+(AB p20 3 12)≤length (oEs p20 1)
 ∧(AB p20 3 12)+(1:Nat)≤(1073741824:Nat)) (again21 ([AV.t (tI (w64 ((vI p20 0)+(1:Int))))],[AA.row false (AF p20 0) (1:Nat) (oEs p20 0),AA.row false ((AD p20 3 12)+(1:Nat)) (1:Nat)
 ((take (AB p20 3 12) (drop (AE p20 3 12) (oEs p20 1)))++[[Tree.sl (2:Nat) (gL y22 0)]]),AA.row false (AF p20 2) (1:Nat) (oEs p20 2),AA.box [AV.t (Tree.sl (1:Nat) (cL p20 3 0)),
 AV.t (Tree.sl (7:Nat) (cL p20 3 1)),AV.t (Tree.sl (4:Nat) (cL p20 3 2)),AV.t (Tree.sl (5:Nat) (cL p20 3 3)),AV.t (tI (cI p20 3 4)),AV.t (tI (cI p20 3 5)),AV.t (tI (cI p20 3 6)),AV.t (tI (cI p20
 3 7)),AV.t (tI (cI p20 3 8)),AV.t (tI (cI p20 3 9)),AV.t (Tree.bool (cB p20 3 10)),AV.sref (0:Nat) (AD p20 3 11) (AE p20 3 11) (AB p20 3 11),AV.sref (1:Nat) ((AD p20 3 12)+(1:Nat))
 (0:Nat) ((AB p20 3 12)+(1:Nat)),AV.sref (2:Nat) (AD p20 3 13) (AE p20 3 13) (AB p20 3 13)]])) none) none) none) none) (cnd (AF p20 1=AD p20 3 12∧(1:Nat)=(1:Nat)∧(0:Int)≤cI p20
 3 4∧cI p20 3 4<((AB p20 3 12:Nat):Int)) (cnd (AF p20 1=AD p20 3 12) (Option.bind (oEs p20 1)[(AE p20 3 12)+(toNat (cI p20 3 4))]? fun y23=>cnd (okL 2 y23 0) (AO (fun (p24 :
 List AV×Heap) (again25:_→Option (List Tree))=>JF n y23 p24 again25) n ([AV.t (tI (0:Int))],[AA.row false (AF p20 0) (1:Nat) (oEs p20 0),AA.row false (AF p20 1) (1:Nat) (oEs p20
 1),AA.row false (AF p20 2) (1:Nat) (oEs p20 2),AA.box [AV.t (Tree.sl (1:Nat) (cL p20 3 0)),AV.t (Tree.sl (7:Nat) (cL p20 3 1)),AV.t (Tree.sl (4:Nat) (cL p20 3 2)),AV.t (Tree.sl (5:Nat) (cL
 p20 3 3)),AV.t (tI (cI p20 3 4)),AV.t (tI (cI p20 3 5)),AV.t (tI (cI p20 3 6)),AV.t (tI (cI p20 3 7)),AV.t (tI (cI p20 3 8)),AV.t (tI (cI p20 3 9)),AV.t (Tree.bool (cB p20 3 10)),AV.sref
 (0:Nat) (AD p20 3 11) (AE p20 3 11) (AB p20 3 11),AV.sref (1:Nat) (AD p20 3 12) (AE p20 3 12) (AB p20 3 12),AV.sref (2:Nat) (AD p20 3 13) (AE p20 3 13) (AB p20 3 13)],AA.box
 [AV.ptr (3:Nat) (0:Nat)],AA.row false (0:Nat) (4:Nat) [],AA.box [AV.sref (5:Nat) (0:Nat) (0:Nat) (0:Nat)],AA.row false (0:Nat) (4:Nat) [],AA.box [AV.sref (7:Nat) (0:Nat) (0:Nat)
 (0:Nat)]])) none) none) none)
noncomputable def Nf (n:Nat) (a1:List (List Tree)) (a0:List (List Tree)) (a2:List (List Tree)) (a6:Int) (a3:List (List Tree)) (p15:List AV×Heap) (again16:(List AV×Heap)→Option (List Tree)):Option (List Tree):=
 cnd (decide (vI p15 0<((length a1:Nat):Int))=true) (cnd ((7:Nat)=(7:Nat)∧(0:Int)≤vI p15 0) (Option.bind a1[toNat (vI p15 0)]? fun y17=>cnd (okI y17 0) (cnd (okI y17 1) (cnd (okI
 y17 2) (cnd (okI y17 3) (cnd (okI y17 4) (cnd (okI y17 5) (cnd (okI y17 6) (Option.bind (AM C n (83:Nat) [Tree.sl (1:Nat) a0,Tree.sl (7:Nat) a1,Tree.sl (4:Nat) a2,tI (vI p15 0)]) fun y18=>cnd
 (length y18=(2:Nat)) (cnd (okL 2 y18 0) (cnd (okI y18 1) (Option.bind (AM C n (84:Nat) [tI (gI y17 0),tI (gI y17 1),tI (gI y17 2),tI (gI y17 3),tI (gI y17 4),tI (gI y17 5),tI (gI y17
 6),tI a6]) fun y19=>cnd (length y19=(2:Nat)) (cnd (okI y19 0) (cnd (okI y19 1) (cnd (AF p15 0=AD p15 3 11∧((1:Nat)=(1:Nat)∨(1:Nat)=(0:Nat))∧(AE p15 3 11)+(AB p15 3 11)
 ≤length (oEs p15 0)∧(AB p15 3 11)+(1:Nat)≤(1073741824:Nat)) (cnd (AF p15 2=AD p15 3 13∧((1:Nat)=(1:Nat)∨(1:Nat)=(0:Nat))∧(AE p15 3 13)+(AB p15 3 13)≤length
 (oEs p15 2)∧(AB p15 3 13)+(1:Nat)≤(1073741824:Nat)) (again16 ([AV.t (tI (w64 ((vI p15 0)+(1:Int))))],[AA.row false ((AD p15 3 11)+(1:Nat)) (1:Nat) ((take (AB p15 3 11)
 (drop (AE p15 3 11) (oEs p15 0)))++[[Tree.sl (2:Nat) (gL y18 0)]]),AA.row false (AF p15 1) (1:Nat) (oEs p15 1),AA.row false ((AD p15 3 13)+(1:Nat)) (1:Nat) ((take (AB p15 3
 13) (drop (AE p15 3 13) (oEs p15 2)))++[[tI (gI y19 0)]]),AA.box [AV.t (Tree.sl (1:Nat) (cL p15 3 0)),AV.t (Tree.sl (7:Nat) (cL p15 3 1)),AV.t (Tree.sl (4:Nat) (cL p15 3 2)),AV.t
 (Tree.sl (5:Nat) (cL p15 3 3)),AV.t (tI (cI p15 3 4)),AV.t (tI (cI p15 3 5)),AV.t (tI (cI p15 3 6)),AV.t (tI (cI p15 3 7)),AV.t (tI (cI p15 3 8)),AV.t (tI (cI p15 3 9)),AV.t (Tree.bool (cB p15
 3 10)),AV.sref (0:Nat) ((AD p15 3 11)+(1:Nat)) (0:Nat) ((AB p15 3 11)+(1:Nat)),AV.sref (1:Nat) (AD p15 3 12) (AE p15 3 12) (AB p15 3 12),AV.sref (2:Nat) ((AD p15 3 13)+(1:Nat))
 (0:Nat) ((AB p15 3 13)+(1:Nat))]])) none) none) none) none) none) none) none) none) none) none) none) none) none) none) none) none) (AO (fun (p20:List AV×Heap) (again21:_→Option
 (List Tree))=>Ng n a0 a1 a3 a6 p20 again21) n ([AV.t (tI (0:Int))],[AA.row false (AF p15 0) (1:Nat) (oEs p15 0),AA.row false (AF p15 1) (1:Nat) (oEs p15 1),AA.row false (AF p15 2)
 (1:Nat) (oEs p15 2),AA.box [AV.t (Tree.sl (1:Nat) (cL p15 3 0)),AV.t (Tree.sl (7:Nat) (cL p15 3 1)),AV.t (Tree.sl (4:Nat) (cL p15 3 2)),AV.t (Tree.sl (5:Nat) (cL p15 3 3)),AV.t (tI (cI p15 3
 4)),AV.t (tI (cI p15 3 5)),AV.t (tI (cI p15 3 6)),AV.t (tI (cI p15 3 7)),AV.t (tI (cI p15 3 8)),AV.t (tI (cI p15 3 9)),AV.t (Tree.bool (cB p15 3 10)),AV.sref (0:Nat) (AD p15 3 11) (AE p15 3
 11) (AB p15 3 11),AV.sref (1:Nat) (AD p15 3 12) (AE p15 3 12) (AB p15 3 12),AV.sref (2:Nat) (AD p15 3 13) (AE p15 3 13) (AB p15 3 13)]]))
noncomputable def Ul (n:Nat) (a1:List (List Tree)) (a0:List (List Tree)) (a2:List (List Tree)) (a6:Int) (a3:List (List Tree)) (a4:Int) (a5:Int) (a7:Int) (a8:Int) (a9:Int) (a10:Bool) (p11:List AV×Heap):Option (List Tree):=
 cnd (vB p11 0=true) (some [tI (0:Int),tI (1:Int)]) (AO (fun (p15:List AV×Heap) (again16:_→Option (List Tree))=>Nf n a1 a0 a2 a6 a3 p15 again16) n ([AV.t (tI (0:Int))],[AA.row
 false (0:Nat) (1:Nat) [],AA.row false (0:Nat) (1:Nat) [],AA.row false (0:Nat) (1:Nat) [],AA.box [AV.t (Tree.sl (1:Nat) a0),AV.t (Tree.sl (7:Nat) a1),AV.t (Tree.sl (4:Nat) a2),AV.t (Tree.sl
 (5:Nat) a3),AV.t (tI a4),AV.t (tI a5),AV.t (tI a6),AV.t (tI a7),AV.t (tI a8),AV.t (tI a9),AV.t (Tree.bool a10),AV.sref (0:Nat) (0:Nat) (0:Nat) (0:Nat),AV.sref (1:Nat) (0:Nat) (0:Nat) (0:Nat),
 AV.sref (2:Nat) (0:Nat) (0:Nat) (0:Nat)]]))
theorem e16 (n:Nat) (a0:List (List Tree)) (a1:List (List Tree)) (a2:List (List Tree)) (a3:List (List Tree)) (a4:Int) (a5:Int) (a6:Int) (a7:Int) (a8:Int) (a9:Int) (a10:Bool):AM C (n+1) 16 [Tree.sl (1:Nat) a0,Tree.sl (7:Nat) a1,Tree.sl (4:Nat) a2,Tree.sl (5:Nat) a3,tI a4,tI a5,tI a6,tI a7,tI a8,tI a9,Tree.bool a10]=
 join (fun (p11:List AV×Heap)=>Ul n a1 a0 a2 a6 a3 a4 a5 a7 a8 a9 a10 p11) fun (again12:_→Option (List Tree))=>Option.bind (AM C n (17:Nat) [Tree.sl (1:Nat) a0,Tree.sl (7:Nat) a1,
 Tree.sl (4:Nat) a2,Tree.sl (5:Nat) a3]) fun y13=>cnd (length y13=(1:Nat)) (cnd (okI y13 0) (cnd (((gI y13 0) != (0:Int))=true) (again12 ([AV.t (Tree.bool true)],[])) (Option.bind (AM C
 n (71:Nat) [Tree.sl (1:Nat) a0,Tree.sl (7:Nat) a1,tI a4,tI a5,tI a6,tI a7,tI a8,tI a9,Tree.bool a10]) fun y14=>cnd (length y14=(1:Nat)) (cnd (okI y14 0) (again12 ([AV.t (Tree.bool
 ((gI y14 0) != (0:Int)))],[])) none) none)) none) none:=by kernel_rfl
end Ab
set_option maxRecDepth 100000
namespace Ab
open Go Go.Proofs
theorem e17 (n:Nat) (a0:List (List Tree)) (a1:List (List Tree)) (a2:List (List Tree)) (a3:List (List Tree)):AM C (n+1) 17 [Tree.sl (1:Nat) a0,Tree.sl (7:Nat) a1,Tree.sl (4:Nat) a2,Tree.sl (5:Nat) a3]=
 Option.bind (AM C n (41:Nat) [Tree.sl (1:Nat) a0,Tree.sl (7:Nat) a1]) fun y4=>cnd (length y4=(1:Nat)) (cnd (okI y4 0) (cnd (((gI y4 0) != (0:Int))=true) (some [tI (gI y4 0)])
 (Option.bind (AM C n (13:Nat) [Tree.sl (1:Nat) a0,Tree.sl (7:Nat) a1,Tree.sl (4:Nat) a2]) fun y5=>cnd (length y5=(1:Nat)) (cnd (okI y5 0) (cnd (((gI y5 0) != (0:Int))=true) (some [tI
 (gI y5 0)]) (Option.bind (AM C n (48:Nat) [Tree.sl (1:Nat) a0,Tree.sl (7:Nat) a1,Tree.sl (5:Nat) a3]) fun y6=>cnd (length y6=(1:Nat)) (cnd (okI y6 0) (some [tI (gI y6 0)]) none) none))
 none) none)) none) none:=by kernel_rfl
theorem e24 (n:Nat) (a0:List (List Tree)) (a1:List (List Tree)) (a2:List (List Tree)) (a3:List (List Tree)):AM C (n+1) 24 [Tree.sl (1:Nat) a0,Tree.sl (7:Nat) a1,Tree.sl (4:Nat) a2,Tree.sl (5:Nat) a3]=
 Option.bind (AM C n (15:Nat) [Tree.sl (1:Nat) a0,Tree.sl (7:Nat) a1]) fun y4=>cnd (length y4=(1:Nat)) (cnd (okI y4 0) (cnd (((gI y4 0) != (0:Int))=true) (some [tI (gI y4 0)])
 (Option.bind (AM C n (57:Nat) [Tree.sl (1:Nat) a0,Tree.sl (7:Nat) a1,Tree.sl (4:Nat) a2]) fun y5=>cnd (length y5=(1:Nat)) (cnd (okI y5 0) (cnd (((gI y5 0) != (0:Int))=true) (some [tI
 (gI y5 0)]) (Option.bind (AM C n (58:Nat) [Tree.sl (1:Nat) a0,Tree.sl (7:Nat) a1,Tree.sl (5:Nat) a3]) fun y6=>cnd (length y6=(1:Nat)) (cnd (okI y6 0) (some [tI (gI y6 0)]) none) none))
 none) none)) none) none:=by kernel_rfl
theorem e71 (n:Nat) (a0:List (List Tree)) (a1:List (List Tree)) (a2:Int) (a3:Int) (a4:Int) (a5:Int) (a6:Int) (a7:Int) (a8:Bool):AM C (n+1) 71 [Tree.sl (1:Nat) a0,Tree.sl (7:Nat) a1,tI a2,tI a3,tI a4,tI a5,tI a6,tI a7,Tree.bool a8]=
 Option.bind (AM C n (41:Nat) [Tree.sl (1:Nat) a0,Tree.sl (7:Nat) a1]) fun y9=>cnd (length y9=(1:Nat)) (cnd (okI y9 0) (cnd (((gI y9 0) != (0:Int))=true) (some [tI (1:Int)]) (cnd (decide
 (a2<(0:Int))=true) (some [tI (2:Int)]) (cnd (decide (a2≥((length a0:Nat):Int))=true) (some [tI (2:Int)]) (cnd (decide (a3<(0:Int))=true) (some [tI (2:Int)]) (cnd (decide (a3 ≥
 ((length a0:Nat):Int))=true) (some [tI (2:Int)]) (cnd ((a2==a3)=true) (some [tI (10:Int)]) (cnd (decide (a4<(1:Int))=true) (some [tI (2:Int)]) (cnd (decide (a4>(65536:Int))=true)
 (some [tI (2:Int)]) (cnd (decide (a5<(0:Int))=true) (some [tI (2:Int)]) (cnd (decide (a5>a6)=true) (some [tI (2:Int)]) (cnd (decide (a6>(1099511627776:Int))=true) (some [tI (2:Int)]) (cnd
 (decide (a7<(0:Int))=true) (some [tI (8:Int)]) (cnd (decide (a7>(2:Int))=true) (some [tI (8:Int)]) (some [tI (0:Int)])))))))))))))) none) none:=by kernel_rfl
theorem e25 (n:Nat) (a0:List (List Tree)) (a1:List (List Tree)) (a2:Int) (a3:Int) (a4:Int) (a5:Int) (a6:Int) (a7:Int) (a8:Bool):AM C (n+1) 25 [Tree.sl (1:Nat) a0,Tree.sl (7:Nat) a1,tI a2,tI a3,tI a4,tI a5,tI a6,tI a7,Tree.bool a8]=
 Option.bind (AM C n (15:Nat) [Tree.sl (1:Nat) a0,Tree.sl (7:Nat) a1]) fun y9=>cnd (length y9=(1:Nat)) (cnd (okI y9 0) (cnd (((gI y9 0) != (0:Int))=true) (some [tI (1:Int)]) (cnd (decide
 (a2<(0:Int))=true) (some [tI (2:Int)]) (cnd (decide (a2≥((length a0:Nat):Int))=true) (some [tI (2:Int)]) (cnd (decide (a3<(0:Int))=true) (some [tI (2:Int)]) (cnd (decide (a3 ≥
 ((length a0:Nat):Int))=true) (some [tI (2:Int)]) (cnd ((a2==a3)=true) (some [tI (10:Int)]) (cnd (decide (a4<(1:Int))=true) (some [tI (2:Int)]) (cnd (decide (a4>(65536:Int))=true)
 (some [tI (2:Int)]) (cnd (decide (a5<(0:Int))=true) (some [tI (2:Int)]) (cnd (decide (a5>a6)=true) (some [tI (2:Int)]) (cnd (decide (a6>(1099511627776:Int))=true) (some [tI (2:Int)]) (cnd
 (decide (a7<(0:Int))=true) (some [tI (8:Int)]) (cnd (decide (a7>(2:Int))=true) (some [tI (8:Int)]) (some [tI (0:Int)])))))))))))))) none) none:=by kernel_rfl
theorem e6 (n:Nat) (a0:List (List Tree)) (a1:List (List Tree)) (a2:List (List Tree)) (a3:List (List Tree)) (a4:Int) (a5:Int) (a6:Int) (a7:Int) (a8:Int) (a9:Int) (a10:Bool):AM C (n+1) 6 [Tree.sl (1:Nat) a0,Tree.sl (7:Nat) a1,Tree.sl (4:Nat) a2,Tree.sl (5:Nat) a3,tI a4,tI a5,tI a6,tI a7,tI a8,tI a9,Tree.bool a10]=
 Option.bind (AM C n (23:Nat) [Tree.sl (1:Nat) a0,Tree.sl (7:Nat) a1,Tree.sl (4:Nat) a2,Tree.sl (5:Nat) a3]) fun y11=>cnd (length y11=(1:Nat)) (cnd (okB y11 0) (cnd ((!(gB y11 0))=
 true) (Option.bind (AM C n (24:Nat) [Tree.sl (1:Nat) a0,Tree.sl (7:Nat) a1,Tree.sl (4:Nat) a2,Tree.sl (5:Nat) a3]) fun y12=>cnd (length y12=(1:Nat)) (cnd (okI y12 0) (cnd (((gI y12 0)
 == (0:Int))=true) (Option.bind (AM C n (25:Nat) [Tree.sl (1:Nat) a0,Tree.sl (7:Nat) a1,tI a4,tI a5,tI a6,tI a7,tI a8,tI a9,Tree.bool a10]) fun y13=>cnd (length y13=(1:Nat)) (cnd
 (okI y13 0) (some [Tree.bool ((gI y13 0)==(0:Int))]) none) none) (some [Tree.bool false])) none) none) (some [Tree.bool false])) none) none:=by kernel_rfl
theorem e23 (n:Nat) (a0:List (List Tree)) (a1:List (List Tree)) (a2:List (List Tree)) (a3:List (List Tree)):AM C (n+1) 23 [Tree.sl (1:Nat) a0,Tree.sl (7:Nat) a1,Tree.sl (4:Nat) a2,Tree.sl (5:Nat) a3]=
 Option.bind (AM C n (56:Nat) [Tree.sl (1:Nat) a0,Tree.sl (7:Nat) a1]) fun y4=>cnd (length y4=(1:Nat)) (cnd (okB y4 0) (cnd (gB y4 0=true) (some [Tree.bool true]) (cnd (decide
 (((length a2:Nat):Int)>(30:Int))=true) (some [Tree.bool true]) (some [Tree.bool (decide (((length a3:Nat):Int)>(30:Int)))]))) none) none:=by kernel_rfl
theorem e157 (n:Nat) (a0:Int) (a1:Int) (a2:Int) (a3:Int) (a4:Int) (a5:Int) (a6:Int) (a7:Int) (a8:Int):AM C (n+1) 157 [tI a0,tI a1,tI a2,tI a3,tI a4,tI a5,tI a6,tI a7,tI a8]=
 Option.bind (AM C n (143:Nat) [tI a0,tI a1,tI a2,tI a3,tI a4,tI a5,tI a6,tI a8]) fun y9=>cnd (length y9=(1:Nat)) (cnd (okI y9 0) (cnd (((gI y9 0)==(0:Int))=true) (Option.bind
 (AM C n (197:Nat) [tI a0,tI a1,tI a2,tI a3,tI a4,tI a5,tI a6,tI a7,tI a8]) fun y10=>cnd (length y10=(1:Nat)) (cnd (okB y10 0) (some [Tree.bool (gB y10 0)]) none) none) (some
 [Tree.bool false])) none) none:=by kernel_rfl
theorem e158 (n:Nat) (a0:List (List Tree)) (a1:List (List Tree)) (a2:Int) (a3:Int) (a4:Int) (a5:Int) (a6:Int) (a7:Int) (a8:Bool) (a9:Int) (a10:Int):AM C (n+1) 158 [Tree.sl (1:Nat) a0,Tree.sl (7:Nat) a1,tI a2,tI a3,tI a4,tI a5,tI a6,tI a7,Tree.bool a8,tI a9,tI a10]=
 cnd ((7:Nat)=(7:Nat)∧(0:Int)≤a9) (Option.bind a1[toNat a9]? fun y11=>cnd (okI y11 0) (cnd (okI y11 1) (cnd (okI y11 2) (cnd (okI y11 3) (cnd (okI y11 4) (cnd (okI y11 5) (cnd (okI y11 6)
 (Option.bind (AM C n (84:Nat) [tI (gI y11 0),tI (gI y11 1),tI (gI y11 2),tI (gI y11 3),tI (gI y11 4),tI (gI y11 5),tI (gI y11 6),tI a4]) fun y12=>cnd (length y12=(2:Nat)) (cnd (okI
 y12 0) (cnd (okI y12 1) (some [tI a9,tI a10,tI (w64 (a10+(gI y12 0))),tI (w64 ((w64 (a10+(gI y12 0)))+(gI y11 5)))]) none) none) none) none) none) none) none) none) none) none) none:=by kernel_rfl
theorem e100 (n:Nat) (a0:List (List Tree)) (a1:List (List Tree)) (a2:Int) (a3:Int) (a4:Int) (a5:Int) (a6:Int) (a7:Int) (a8:Bool) (a9:Int) (a10:Int) (a11:Int) (a12:Int) (a13:Int) (a14:Int):AM C (n+1) 100 [Tree.sl (1:Nat) a0,Tree.sl (7:Nat) a1,tI a2,tI a3,tI a4,tI a5,tI a6,tI a7,Tree.bool a8,tI a9,tI a10,tI a11,tI a12,tI a13,tI a14]=
 cnd (decide (a11<(0:Int))=true) (some [tI (2:Int)]) (cnd (decide (a11≥((length a1:Nat):Int))=true) (some [tI (2:Int)]) (cnd ((7:Nat)=(7:Nat)∧(0:Int)≤a11) (Option.bind a1[toNat
 a11]? fun y15=>cnd (okI y15 0) (cnd (okI y15 1) (cnd (okI y15 2) (cnd (okI y15 3) (cnd (okI y15 4) (cnd (okI y15 5) (cnd (okI y15 6) (cnd (((gI y15 0) != a9)=true) (some [tI (10:Int)]) (cnd ((a9
 == a3)=true) (some [tI (10:Int)]) (cnd (decide (a12<a10)=true) (some [tI (9:Int)]) (Option.bind (AM C n (157:Nat) [tI (gI y15 0),tI (gI y15 1),tI (gI y15 2),tI (gI y15 3),tI (gI y15 4),
 tI (gI y15 5),tI (gI y15 6),tI a12,tI a4]) fun y16=>cnd (length y16=(1:Nat)) (cnd (okB y16 0) (cnd ((!(gB y16 0))=true) (some [tI (16:Int)]) (Option.bind (AM C n (158:Nat) [Tree.sl
 (1:Nat) a0,Tree.sl (7:Nat) a1,tI a2,tI a3,tI a4,tI a5,tI a6,tI a7,Tree.bool a8,tI a11,tI a12]) fun y17=>cnd (length y17=(4:Nat)) (cnd (okI y17 0) (cnd (okI y17 1) (cnd (okI y17 2)
 (cnd (okI y17 3) (cnd ((!((((a11==(gI y17 0))&&(a12==(gI y17 1)))&&(a13==(gI y17 2)))&&(a14==(gI y17 3))))=true) (some [tI (1:Int)]) (some [tI (0:Int)])) none) none) none) none) none))
 none) none)))) none) none) none) none) none) none) none) none)):=by kernel_rfl
theorem e49 (n:Nat) (a0:List (List Tree)) (a1:List (List Tree)) (a2:Int) (a3:Int) (a4:Int) (a5:Int) (a6:Int) (a7:Int) (a8:Bool) (a9:List (List Tree)):AM C (n+1) 49 [Tree.sl (1:Nat) a0,Tree.sl (7:Nat) a1,tI a2,tI a3,tI a4,tI a5,tI a6,tI a7,Tree.bool a8,Tree.sl (4:Nat) a9]=
 Option.bind (AM C n (71:Nat) [Tree.sl (1:Nat) a0,Tree.sl (7:Nat) a1,tI a2,tI a3,tI a4,tI a5,tI a6,tI a7,Tree.bool a8]) fun y10=>cnd (length y10=(1:Nat)) (cnd (okI y10 0) (cnd (((gI
 y10 0) != (0:Int))=true) (some [tI (1:Int)]) (cnd ((((length a9:Nat):Int)==(0:Int))=true) (some [tI (20:Int)]) (cnd (decide (((length a9:Nat):Int)>(1000:Int))=true) (some [tI
 (4:Int)]) (AO (fun (p11:List AV×Heap) (again12:_→Option (List Tree))=>cnd (decide (vI p11 0<((length a9:Nat):Int))=true) (cnd ((4:Nat)=(4:Nat)∧(0:Int)≤vI p11 0)
 (Option.bind a9[toNat (vI p11 0)]? fun y13=>cnd (okI y13 0) (cnd (okI y13 1) (cnd (okI y13 2) (cnd (okI y13 3) (Option.bind (AM C n (100:Nat) [Tree.sl (1:Nat) a0,Tree.sl (7:Nat) a1,tI a2,
 tI a3,tI a4,tI a5,tI a6,tI a7,Tree.bool a8,tI (cI p11 2 0),tI (cI p11 2 1),tI (gI y13 0),tI (gI y13 1),tI (gI y13 2),tI (gI y13 3)]) fun y14=>cnd (length y14=(1:Nat)) (cnd (okI y14
 0) (cnd (((gI y14 0) != (0:Int))=true) (some [tI (gI y14 0)]) (cnd (decide (gI y13 0<(0:Int))=true) (cnd ((4:Nat)=(4:Nat)∧(0:Int)≤w64 (((length a9:Nat):Int)-(1:Int))) (Option.bind
 a9[toNat (w64 (((length a9:Nat):Int)-(1:Int)))]? fun y15=>cnd (okI y15 0) (cnd (okI y15 1) (cnd (okI y15 2) (cnd (okI y15 3) (cnd ((7:Nat)=(7:Nat)∧(0:Int)≤gI y15 0) (Option.bind
 a1[toNat (gI y15 0)]? fun y16=>cnd (okI y16 1) (cnd (((gI y16 1) != a3)=true) (some [tI (18:Int)]) (cnd (decide (gI y15 3>a6)=true) (some [tI (16:Int)]) (some [tI (0:Int)]))) none) none)
 none) none) none) none) none) (cnd (decide (gI y13 0≥((length a1:Nat):Int))=true) (cnd ((4:Nat)=(4:Nat)∧(0:Int)≤w64 (((length a9:Nat):Int)-(1:Int))) (Option.bind a9[toNat
 (w64 (((length a9:Nat):Int)-(1:Int)))]? fun y17=>cnd (okI y17 0) (cnd (okI y17 1) (cnd (okI y17 2) (cnd (okI y17 3) (cnd ((7:Nat)=(7:Nat)∧(0:Int)≤gI y17 0) (Option.bind a1[toNat (gI
 y17 0)]? fun y18=>cnd (okI y18 1) (cnd (((gI y18 1) != a3)=true) (some [tI (18:Int)]) (cnd (decide (gI y17 3>a6)=true) (some [tI (16:Int)]) (some [tI (0:Int)]))) none) none) none) none) none)
 none) none) (cnd ((7:Nat)=(7:Nat)∧(0:Int)≤gI y13 0) (Option.bind a1[toNat (gI y13 0)]? fun y19=>cnd (okI y19 1) (again12 ([AV.t (tI (w64 ((vI p11 0)+(1:Int))))],[AA.box [AV.t (tI (cI
 p11 0 0))],AA.box [],AA.box [AV.t (tI (gI y19 1)),AV.t (tI (gI y13 3))]])) none) none)))) none) none) none) none) none) none) none) (cnd ((4:Nat)=(4:Nat)∧(0:Int)≤w64 (((length
 a9:Nat):Int)-(1:Int))) (Option.bind a9[toNat (w64 (((length a9:Nat):Int)-(1:Int)))]? fun y20=>cnd (okI y20 0) (cnd (okI y20 1) (cnd (okI y20 2) (cnd (okI y20 3) (cnd ((7:Nat)=(7:Nat)
 ∧(0:Int)≤gI y20 0) (Option.bind a1[toNat (gI y20 0)]? fun y21=>cnd (okI y21 1) (cnd (((gI y21 1) != a3)=true) (some [tI (18:Int)]) (cnd (decide (gI y20 3>a6)=true) (some [tI (16:Int)])
 (some [tI (0:Int)]))) none) none) none) none) none) none) none)) n ([AV.t (tI (0:Int))],[AA.box [AV.t (tI (0:Int))],AA.box [],AA.box [AV.t (tI a2),AV.t (tI a5)]]))))) none) none:=by kernel_rfl
theorem e101 (n:Nat) (a0:List (List Tree)) (a1:List (List Tree)) (a2:Int) (a3:Int) (a4:Int) (a5:Int) (a6:Int) (a7:Int) (a8:Bool) (a9:Int) (a10:Int) (a11:Int) (a12:Int):AM C (n+1) 101 [Tree.sl (1:Nat) a0,Tree.sl (7:Nat) a1,tI a2,tI a3,tI a4,tI a5,tI a6,tI a7,Tree.bool a8,tI a9,tI a10,tI a11,tI a12]=
 cnd (a8=true) (cnd ((7:Nat)=(7:Nat)∧(0:Int)≤a9) (Option.bind a1[toNat a9]? fun y13=>cnd (okI y13 5) (some [tI (w64 (a11+(w64 ((2:Int)*(gI y13 5)))))]) none) none) (some [tI a11]):=by kernel_rfl
theorem e50 (n:Nat) (a0:List (List Tree)) (a1:List (List Tree)) (a2:Int) (a3:Int) (a4:Int) (a5:Int) (a6:Int) (a7:Int) (a8:Bool) (a9:List (List Tree)) (a10:Int):AM C (n+1) 50 [Tree.sl (1:Nat) a0,Tree.sl (7:Nat) a1,tI a2,tI a3,tI a4,tI a5,tI a6,tI a7,Tree.bool a8,Tree.sl (4:Nat) a9,tI a10]=
 AO (fun (p11:List AV×Heap) (again12:_→Option (List Tree))=>cnd (decide (vI p11 0<((length a9:Nat):Int))=true) (cnd ((4:Nat)=(4:Nat)∧(0:Int)≤vI p11 0) (Option.bind
 a9[toNat (vI p11 0)]? fun y13=>cnd (okI y13 0) (cnd (okI y13 1) (cnd (okI y13 2) (cnd (okI y13 3) (Option.bind (AM C n (101:Nat) [Tree.sl (1:Nat) a0,Tree.sl (7:Nat) a1,tI a2,tI a3,tI a4,
 tI a5,tI a6,tI a7,Tree.bool a8,tI (gI y13 0),tI (gI y13 1),tI (gI y13 2),tI (gI y13 3)]) fun y14=>cnd (length y14=(1:Nat)) (cnd (okI y14 0) (cnd (AF p11 0=AD p11 1 0∧((5:Nat)=
 (5:Nat)∨(5:Nat)=(0:Nat))∧(AE p11 1 0)+(AB p11 1 0)≤length (oEs p11 0)∧(AB p11 1 0)+(1:Nat)≤(1073741824:Nat)) (cnd (decide (gI y13 0<(0:Int))=true) (cnd ((AD p11 1 0) +
 (1:Nat)=(AD p11 1 0)+(1:Nat)∧(5:Nat)=(5:Nat)∧(0:Nat)+((AB p11 1 0)+(1:Nat))≤length ((take (AB p11 1 0) (drop (AE p11 1 0) (oEs p11 0)))++[[tI (cI p11 4 0),tI
 (cI p11 2 0),tI (gI y14 0),tI a4,tI a10]])∧(AB p11 1 0)+(1:Nat)≤(1073741824:Nat)∧Av (5:Nat) (take ((AB p11 1 0)+(1:Nat)) ((take (AB p11 1 0) (drop (AE p11 1 0)
 (oEs p11 0)))++[[tI (cI p11 4 0),tI (cI p11 2 0),tI (gI y14 0),tI a4,tI a10]]))=true) (cnd ((false=true∨false=false)∧(AD p11 1 0)+(1:Nat)=(AD p11 1 0)+(1:Nat)∧((5:Nat)=
 (5:Nat)∨(5:Nat)=(0:Nat))) (some [Tree.sl (5:Nat) (take ((AB p11 1 0)+(1:Nat)) (A0 ((take (AB p11 1 0) (drop (AE p11 1 0) (oEs p11 0)))++[[tI (cI p11 4 0),tI (cI p11 2
 0),tI (gI y14 0),tI a4,tI a10]]) (0:Nat) ((Fo (BL [0,1,2,4,3])) (take ((AB p11 1 0)+(1:Nat)) ((take (AB p11 1 0) (drop (AE p11 1 0) (oEs p11 0)))++[[tI (cI p11 4
 0),tI (cI p11 2 0),tI (gI y14 0),tI a4,tI a10]])))))]) none) none) (cnd (decide (gI y13 0≥((length a1:Nat):Int))=true) (cnd ((AD p11 1 0)+(1:Nat)=(AD p11 1 0)+(1:Nat)∧(5:Nat)
 = (5:Nat)∧(0:Nat)+((AB p11 1 0)+(1:Nat))≤length ((take (AB p11 1 0) (drop (AE p11 1 0) (oEs p11 0)))++[[tI (cI p11 4 0),tI (cI p11 2 0),tI (gI y14 0),tI a4,tI a10]])
 ∧(AB p11 1 0)+(1:Nat)≤(1073741824:Nat)∧Av (5:Nat) (take ((AB p11 1 0)+(1:Nat)) ((take (AB p11 1 0) (drop (AE p11 1 0) (oEs p11 0)))++[[tI (cI p11 4 0),tI (cI
 p11 2 0),tI (gI y14 0),tI a4,tI a10]]))=true) (cnd ((false=true∨false=false)∧(AD p11 1 0)+(1:Nat)=(AD p11 1 0)+(1:Nat)∧((5:Nat)=(5:Nat)∨(5:Nat)=(0:Nat))) (some [Tree.sl
 (5:Nat) (take ((AB p11 1 0)+(1:Nat)) (A0 ((take (AB p11 1 0) (drop (AE p11 1 0) (oEs p11 0)))++[[tI (cI p11 4 0),tI (cI p11 2 0),tI (gI y14 0),tI a4,tI a10]]) (0:Nat)
 ((Fo (BL [0,1,2,4,3])) (take ((AB p11 1 0)+(1:Nat)) ((take (AB p11 1 0) (drop (AE p11 1 0) (oEs p11 0)))++[[tI (cI p11 4 0),tI (cI p11 2 0),tI (gI y14 0),tI a4,tI
 a10]])))))]) none) none) (cnd ((7:Nat)=(7:Nat)∧(0:Int)≤gI y13 0) (Option.bind a1[toNat (gI y13 0)]? fun y15=>cnd (okI y15 1) (again12 ([AV.t (tI (w64 ((vI p11 0)+(1:Int))))],[AA.row
 false ((AD p11 1 0)+(1:Nat)) (5:Nat) ((take (AB p11 1 0) (drop (AE p11 1 0) (oEs p11 0)))++[[tI (cI p11 4 0),tI (cI p11 2 0),tI (gI y14 0),tI a4,tI a10]]),AA.box [AV.sref
 (0:Nat) ((AD p11 1 0)+(1:Nat)) (0:Nat) ((AB p11 1 0)+(1:Nat))],AA.box [AV.t (tI (gI y13 1))],AA.box [],AA.box [AV.t (tI (gI y15 1)),AV.t (tI (gI y13 3))]])) none) none))) none) none)
 none) none) none) none) none) none) (cnd (AF p11 0=AD p11 1 0∧(5:Nat)=(5:Nat)∧(AE p11 1 0)+(AB p11 1 0)≤length (oEs p11 0)∧AB p11 1 0≤(1073741824:Nat)∧Av (5:Nat)
 (take (AB p11 1 0) (drop (AE p11 1 0) (oEs p11 0)))=true) (cnd ((false=true∨false=false)∧AD p11 1 0=AD p11 1 0∧((5:Nat)=(5:Nat)∨(5:Nat)=(0:Nat))) (some [Tree.sl
 (5:Nat) (take (AB p11 1 0) (drop (AE p11 1 0) (A0 (oEs p11 0) (AE p11 1 0) ((Fo (BL [0,1,2,4,3])) (take (AB p11 1 0) (drop (AE p11 1 0) (oEs p11 0)))))))])
 none) none)) n ([AV.t (tI (0:Int))],[AA.row false (0:Nat) (5:Nat) [],AA.box [AV.sref (0:Nat) (0:Nat) (0:Nat) (0:Nat)],AA.box [AV.t (tI a5)],AA.box [],AA.box [AV.t (tI a2),AV.t (tI
 a5)]]):=by kernel_rfl
theorem e11 (n:Nat) (a0:List (List Tree)) (a1:Int):AM C (n+1) 11 [Tree.sl (4:Nat) a0,tI a1]=
 AO (fun (p2:List AV×Heap) (again3:_→Option (List Tree))=>cnd (decide (vI p2 1<((length a0:Nat):Int))=true) (cnd ((4:Nat)=(4:Nat)∧(0:Int)≤vI p2 1) (Option.bind
 a0[toNat (vI p2 1)]? fun y4=>cnd (okI y4 0) (cnd (okI y4 1) (cnd (okI y4 2) (cnd (okI y4 3) (cnd (AF p2 0=Fl p2 0∧((4:Nat)=(4:Nat)∨(4:Nat)=(0:Nat))∧(Fw p2 0)+(A8 p2 0)≤
 length (oEs p2 0)∧(A8 p2 0)+(1:Nat)≤(1073741824:Nat)) (again3 ([AV.sref (0:Nat) ((Fl p2 0)+(1:Nat)) (0:Nat) ((A8 p2 0)+(1:Nat)),AV.t (tI (w64 ((vI p2 1)+(1:Int))))],[AA.row
 false ((Fl p2 0)+(1:Nat)) (4:Nat) ((take (A8 p2 0) (drop (Fw p2 0) (oEs p2 0)))++[[tI (gI y4 0),tI (gI y4 1),tI (gI y4 2),tI a1]])])) none) none) none) none) none) none) (cnd
 (AF p2 0=Fl p2 0∧(4:Nat)=(4:Nat)∧(Fw p2 0)+(A8 p2 0)≤length (oEs p2 0)∧A8 p2 0≤(19:Nat)∧Av (4:Nat) (take (A8 p2 0) (drop (Fw p2 0) (oEs p2 0)))=
 true) (cnd ((false=true∨false=false)∧Fl p2 0=Fl p2 0∧((4:Nat)=(4:Nat)∨(4:Nat)=(0:Nat))) (some [Tree.sl (4:Nat) (take (A8 p2 0) (drop (Fw p2 0) (A0 (oEs p2 0)
 (Fw p2 0) ((NC (BL [0,1])) (take (A8 p2 0) (drop (Fw p2 0) (oEs p2 0)))))))]) none) none)) n ([AV.sref (0:Nat) (0:Nat) (0:Nat) (0:Nat),AV.t (tI (0:Int))],[AA.row false
 (0:Nat) (4:Nat) []]):=by kernel_rfl
theorem e18 (n:Nat) (a0:List (List Tree)) (a1:List (List Tree)) (a2:List (List Tree)) (a3:List (List Tree)) (a4:Int) (a5:Int) (a6:Int) (a7:Int) (a8:Int) (a9:Int) (a10:Bool) (a11:List (List Tree)):AM C (n+1) 18 [Tree.sl (1:Nat) a0,Tree.sl (7:Nat) a1,Tree.sl (4:Nat) a2,Tree.sl (5:Nat) a3,tI a4,tI a5,tI a6,tI a7,tI a8,tI a9,Tree.bool a10,Tree.sl (4:Nat) a11]=
 Option.bind (AM C n (17:Nat) [Tree.sl (1:Nat) a0,Tree.sl (7:Nat) a1,Tree.sl (4:Nat) a2,Tree.sl (5:Nat) a3]) fun y12=>cnd (length y12=(1:Nat)) (cnd (okI y12 0) (cnd (((gI y12 0) !=
 (0:Int))=true) (some [tI (1:Int)]) (Option.bind (AM C n (49:Nat) [Tree.sl (1:Nat) a0,Tree.sl (7:Nat) a1,tI a4,tI a5,tI a6,tI a7,tI a8,tI a9,Tree.bool a10,Tree.sl (4:Nat) a11]) fun y13=>
 cnd (length y13=(1:Nat)) (cnd (okI y13 0) (cnd (((gI y13 0) != (0:Int))=true) (some [tI (gI y13 0)]) (Option.bind (AM C n (50:Nat) [Tree.sl (1:Nat) a0,Tree.sl (7:Nat) a1,tI a4,tI a5,tI
 a6,tI a7,tI a8,tI a9,Tree.bool a10,Tree.sl (4:Nat) a11,tI (0:Int)]) fun y14=>cnd (length y14=(1:Nat)) (cnd (okL 5 y14 0) (cnd (decide (w64 (((length a2:Nat):Int)+((length
 a11:Nat):Int))>(512:Int))=true) (some [tI (4:Int)]) (cnd (decide (w64 (((length a3:Nat):Int)+((length (gL y14 0):Nat):Int))>(512:Int))=true) (some [tI (4:Int)]) (Option.bind (AM
 C n (11:Nat) [Tree.sl (4:Nat) a11,tI (0:Int)]) fun y15=>cnd (length y15=(1:Nat)) (cnd (okL 4 y15 0) (AO (fun (p16:List AV×Heap) (again17:_→Option (List Tree))=>cnd (decide
 (vI p16 1<((length (gL y15 0):Nat):Int))=true) (cnd ((4:Nat)=(4:Nat)∧(0:Int)≤vI p16 1) (Option.bind (gL y15 0)[toNat (vI p16 1)]? fun y18=>cnd (okI y18 0) (cnd (okI y18 1) (cnd
 (okI y18 2) (cnd (okI y18 3) (Option.bind (AM C n (12:Nat) [Tree.sl (1:Nat) a0,Tree.sl (7:Nat) a1,Tree.sl (4:Nat) (vL p16 0),tI (gI y18 0),tI (gI y18 1),tI (gI y18 2),tI (gI y18 3)]) fun y19
 =>cnd (length y19=(2:Nat)) (cnd (okL 4 y19 0) (cnd (okI y19 1) (cnd (((gI y19 1) != (0:Int))=true) (some [tI (14:Int)]) (again17 ([AV.t (Tree.sl (4:Nat) (gL y19 0)),AV.t (tI (w64 ((vI p16
 1)+(1:Int))))],[]))) none) none) none) none) none) none) none) none) (AO (fun (p20:List AV×Heap) (again21:_→Option (List Tree))=>cnd (decide (vI p20 1<((length (gL y14
 0):Nat):Int))=true) (cnd ((5:Nat)=(5:Nat)∧(0:Int)≤vI p20 1) (Option.bind (gL y14 0)[toNat (vI p20 1)]? fun y22=>cnd (okI y22 0) (cnd (okI y22 1) (cnd (okI y22 2) (cnd (okI y22 3) (cnd
 (okI y22 4) (Option.bind (AM C n (51:Nat) [Tree.sl (1:Nat) a0,Tree.sl (7:Nat) a1,Tree.sl (5:Nat) (vL p20 0),tI (gI y22 0),tI (gI y22 1),tI (gI y22 2),tI (gI y22 3),tI (gI y22 4)]) fun y23=>
 cnd (length y23=(2:Nat)) (cnd (okL 5 y23 0) (cnd (okI y23 1) (cnd (((gI y23 1) != (0:Int))=true) (some [tI (15:Int)]) (again21 ([AV.t (Tree.sl (5:Nat) (gL y23 0)),AV.t (tI (w64 ((vI p20 1) +
 (1:Int))))],[]))) none) none) none) none) none) none) none) none) none) (some [tI (0:Int)])) n ([AV.t (Tree.sl (5:Nat) a3),AV.t (tI (0:Int))],[]))) n ([AV.t (Tree.sl (4:Nat) a2),AV.t (tI
 (0:Int))],[])) none) none))) none) none)) none) none)) none) none:=by kernel_rfl
theorem e4 (n:Nat) (a0:List (List Tree)) (a1:List (List Tree)) (a2:List (List Tree)) (a3:List (List Tree)) (a4:Int) (a5:Int) (a6:Int) (a7:Int) (a8:Int) (a9:Int) (a10:Bool) (a11:Int) (a12:Int) (a13:List (List Tree)):AM C (n+1) 4 [Tree.sl (1:Nat) a0,Tree.sl (7:Nat) a1,Tree.sl (4:Nat) a2,Tree.sl (5:Nat) a3,tI a4,tI a5,tI a6,tI a7,tI a8,tI a9,Tree.bool a10,Tree.int IntKind.u8 a11,Tree.int IntKind.u8 a12,Tree.sl (4:Nat) a13]=
 Option.bind (AM C n (6:Nat) [Tree.sl (1:Nat) a0,Tree.sl (7:Nat) a1,Tree.sl (4:Nat) a2,Tree.sl (5:Nat) a3,tI a4,tI a5,tI a6,tI a7,tI a8,tI a9,Tree.bool a10]) fun y14=>cnd (length
 y14=(1:Nat)) (cnd (okB y14 0) (cnd ((!(gB y14 0))=true) (some [Tree.bool true]) (cnd ((((length a1:Nat):Int)==(0:Int))=true) (some [Tree.bool true]) (cnd (decide (((length
 a13:Nat):Int)>(12:Int))=true) (some [Tree.bool true]) (Option.bind (AM C n (1000014:Nat) [Tree.sl (7:Nat) a1]) fun y15=>cnd (length y15=(1:Nat)∧okL 7 y15 0) (cnd (((length
 a1:Nat):Int)=(0:Int)) none (cnd ((0:Nat)=(0:Nat)∧(7:Nat)=(7:Nat)∧(0:Int)≤tmod (w64 a11) ((length a1:Nat):Int)∧tmod (w64 a11) ((length a1:Nat):Int)<((length (gL
 y15 0):Nat):Int)) (Option.bind (gL y15 0)[(0:Nat)+(toNat (tmod (w64 a11) ((length a1:Nat):Int)))]? fun y16=>cnd (okI y16 3) (cnd ((0:Nat)=(0:Nat)∧(7:Nat)=(7:Nat)∧(0:Int)≤
 tmod (w64 a11) ((length a1:Nat):Int)∧tmod (w64 a11) ((length a1:Nat):Int)<((length (gL y15 0):Nat):Int)) (Option.bind (gL y15 0)[(0:Nat)+(toNat (tmod (w64 a11)
 ((length a1:Nat):Int)))]? fun y17=>Option.bind (AM C n (15:Nat) [Tree.sl (1:Nat) a0,Tree.sl (7:Nat) (take (length (gL y15 0)) (List.set (gL y15 0) ((0:Nat)+(toNat (tmod
 (w64 a11) ((length a1:Nat):Int)))) (take (3:Nat) y17++([tI (w64 ((gI y16 3)+(w64 a12)))]++drop (4:Nat) y17))))]) fun y18=>cnd (length y18=(1:Nat)) (cnd (okI y18 0) (cnd
 (((gI y18 0) != (0:Int))=true) (some [Tree.bool true]) (Option.bind (AM C n (16:Nat) [Tree.sl (1:Nat) a0,Tree.sl (7:Nat) a1,Tree.sl (4:Nat) a2,Tree.sl (5:Nat) a3,tI a4,tI a5,tI a6,tI a7,
 tI a8,tI a9,Tree.bool a10]) fun y19=>cnd (length y19=(2:Nat)) (cnd (okI y19 0) (cnd (okI y19 1) (Option.bind (AM C n (16:Nat) [Tree.sl (1:Nat) a0,Tree.sl (7:Nat) (take (length
 (gL y15 0)) (List.set (gL y15 0) ((0:Nat)+(toNat (tmod (w64 a11) ((length a1:Nat):Int)))) (take (3:Nat) y17++([tI (w64 ((gI y16 3)+(w64 a12)))]++drop (4:Nat) y17)))),
 Tree.sl (4:Nat) a2,Tree.sl (5:Nat) a3,tI a4,tI a5,tI a6,tI a7,tI a8,tI a9,Tree.bool a10]) fun y20=>cnd (length y20=(2:Nat)) (cnd (okI y20 0) (cnd (okI y20 1) (Option.bind (AM C n
 (17:Nat) [Tree.sl (1:Nat) a0,Tree.sl (7:Nat) (take (length (gL y15 0)) (List.set (gL y15 0) ((0:Nat)+(toNat (tmod (w64 a11) ((length a1:Nat):Int)))) (take (3:Nat) y17 ++
 ([tI (w64 ((gI y16 3)+(w64 a12)))]++drop (4:Nat) y17)))),Tree.sl (4:Nat) a2,Tree.sl (5:Nat) a3]) fun y21=>cnd (length y21=(1:Nat)) (cnd (okI y21 0) (cnd (((gI y21 0) != (0:Int))=
 true) (some [Tree.bool false]) (cnd (((gI y19 1)==(0:Int))=true) (cnd (((gI y20 1) != (0:Int))=true) (some [Tree.bool false]) (cnd (decide (gI y20 0>gI y19 0)=true) (some [Tree.bool false])
 (Option.bind (AM C n (18:Nat) [Tree.sl (1:Nat) a0,Tree.sl (7:Nat) a1,Tree.sl (4:Nat) a2,Tree.sl (5:Nat) a3,tI a4,tI a5,tI a6,tI a7,tI a8,tI a9,Tree.bool a10,Tree.sl (4:Nat) a13]) fun y22
 =>cnd (length y22=(1:Nat)) (cnd (okI y22 0) (cnd (((gI y22 0) != (0:Int))=true) (some [Tree.bool true]) (Option.bind (AM C n (18:Nat) [Tree.sl (1:Nat) a0,Tree.sl (7:Nat) (take
 (length (gL y15 0)) (List.set (gL y15 0) ((0:Nat)+(toNat (tmod (w64 a11) ((length a1:Nat):Int)))) (take (3:Nat) y17++([tI (w64 ((gI y16 3)+(w64 a12)))]++drop
 (4:Nat) y17)))),Tree.sl (4:Nat) a2,Tree.sl (5:Nat) a3,tI a4,tI a5,tI a6,tI a7,tI a8,tI a9,Tree.bool a10,Tree.sl (4:Nat) a13]) fun y23=>cnd (length y23=(1:Nat)) (cnd (okI y23 0) (cnd
 (((gI y23 0)==(0:Int))=true) (some [Tree.bool true]) (some [Tree.bool false])) none) none)) none) none))) (Option.bind (AM C n (18:Nat) [Tree.sl (1:Nat) a0,Tree.sl (7:Nat) a1,Tree.sl (4:Nat)
 a2,Tree.sl (5:Nat) a3,tI a4,tI a5,tI a6,tI a7,tI a8,tI a9,Tree.bool a10,Tree.sl (4:Nat) a13]) fun y24=>cnd (length y24=(1:Nat)) (cnd (okI y24 0) (cnd (((gI y24 0) != (0:Int))=true)
 (some [Tree.bool true]) (Option.bind (AM C n (18:Nat) [Tree.sl (1:Nat) a0,Tree.sl (7:Nat) (take (length (gL y15 0)) (List.set (gL y15 0) ((0:Nat)+(toNat (tmod (w64 a11)
 ((length a1:Nat):Int)))) (take (3:Nat) y17++([tI (w64 ((gI y16 3)+(w64 a12)))]++drop (4:Nat) y17)))),Tree.sl (4:Nat) a2,Tree.sl (5:Nat) a3,tI a4,tI a5,tI a6,tI a7,tI a8,tI
 a9,Tree.bool a10,Tree.sl (4:Nat) a13]) fun y25=>cnd (length y25=(1:Nat)) (cnd (okI y25 0) (cnd (((gI y25 0)==(0:Int))=true) (some [Tree.bool true]) (some [Tree.bool false])) none)
 none)) none) none))) none) none) none) none) none) none) none) none)) none) none) none) none) none)) none)))) none) none:=by kernel_rfl
theorem e88 (n:Nat) (a0:Int) (a1:Int) (a2:Int) (a3:Int) (a4:Int) (a5:Int) (a6:Int) (a7:Int):AM C (n+1) 88 [tI a0,tI a1,tI a2,tI a3,tI a4,tI a5,tI a6,tI a7]=
 Option.bind (AM C n (35:Nat) [tI a3,tI a7]) fun y8=>cnd (length y8=(1:Nat)) (cnd (okI y8 0) (Option.bind (AM C n (35:Nat) [tI a0,tI a4]) fun y9=>cnd (length y9=(1:Nat)) (cnd
 (okI y9 0) (Option.bind (AM C n (35:Nat) [tI a1,tI a5]) fun y10=>cnd (length y10=(1:Nat)) (cnd (okI y10 0) (Option.bind (AM C n (34:Nat) [Tree.sl (1:Nat) [[tI (gI y8 0)],[tI (gI y9
 0)],[tI (gI y10 0)]]]) fun y11=>cnd (length y11=(1:Nat)) (cnd (okI y11 0) (some [tI (gI y11 0)]) none) none) none) none) none) none) none) none:=by kernel_rfl
theorem e91 (n:Nat) (a0:Int) (a1:Int) (a2:Int) (a3:Int) (a4:Int) (a5:Int) (a6:Int) (a7:Int):AM C (n+1) 91 [tI a0,tI a1,tI a2,tI a3,tI a4,tI a5,tI a6,tI a7]=
 cnd ((a0==a4)=true) (some [Tree.bool (a1==a5)]) (some [Tree.bool false]):=by kernel_rfl
end Ab
