/- A part of the proof: see the last text. -/
import Derived.Test.YtabheiodkaljcaaGreatDoorM4
open Bool (eq_false_or_eq_true false_eq_true)
open Int (emod_lt_of_pos emod_nonneg lt_irrefl natCast_zero tmod toNat)
open List (append_assoc append_nil cons_append drop drop_left drop_nil drop_succ_cons drop_zero getD_eq_getElem?_getD getElem?_append_right getElem?_cons_zero getElem?_eq_getElem head?_cons head?_nil length length_append length_cons length_map length_pos_iff map_append map_cons map_nil mem_of_getElem? nil_append set_cons_zero tail_cons take take_of_length_le)
open Nat (le_refl reduceAdd reduceEqDiff)
open Option (getD_none isSome_none isSome_some map_none map_some)
set_option maxRecDepth 100000
set_option linter.unusedVariables false
namespace Ab
open Go Go.Proofs
def IM:List Sh:=[Sh.b,Sh.i,Sh.b,Sh.i,Sh.i,Sh.i,Sh.i]
def BJ:List Sh:=[Sh.i,Sh.l 10,Sh.i,Sh.i,Sh.i,Sh.l 10,Sh.i,Sh.i,Sh.l 1,Sh.i,Sh.l 2,Sh.i,Sh.i,Sh.r 5,Sh.r 6,Sh.i,Sh.i,Sh.i,Sh.i,Sh.i,Sh.i,Sh.i,Sh.i,Sh.i,Sh.s,Sh.i,Sh.i,Sh.i,Sh.l 2,Sh.i,Sh.i,Sh.i,Sh.i,Sh.l 2,Sh.s,Sh.r 1,Sh.b,Sh.i,Sh.b,Sh.i]
def CA:List OSh:=[OSh.box IM,OSh.row 9,OSh.frz 15,OSh.frz 4,OSh.frz 4,OSh.row 9,OSh.row 9,OSh.box BJ]
def C8:List Sh:=[]
def BSB_4:List Sh:=[Sh.i]
def BSB_5:List Sh:=[Sh.b]
def Dg:List OSh:=[OSh.box IM,OSh.row 9,OSh.box C8,OSh.box C8,OSh.box C8,OSh.row 9,OSh.row 9,OSh.box BJ,OSh.box BSB_4,OSh.box BSB_5]
def Be:List OSh:=[OSh.box IM,OSh.row 9,OSh.box C8,OSh.box C8,OSh.box C8,OSh.row 9,OSh.row 9,OSh.box BJ]
def Sq:List Sh:=[Sh.i,Sh.i,Sh.i,Sh.i,Sh.i,Sh.b,Sh.s,Sh.l 2]
def PZ:List OSh:=[OSh.box IM,OSh.row 9,OSh.box C8,OSh.box C8,OSh.box C8,OSh.row 9,OSh.row 9,OSh.box BJ,OSh.box Sq]
def Cc:List OSh:=[OSh.box IM,OSh.row 9,OSh.box C8,OSh.box C8,OSh.box C8,OSh.row 9,OSh.row 9,OSh.box BJ,OSh.row 8]
def LY:List OSh:=[OSh.box IM,OSh.row 9,OSh.box C8,OSh.box C8,OSh.box C8,OSh.row 9,OSh.row 9,OSh.box BJ,OSh.row 8,OSh.box Sq]
def Qz:List Sh:=[Sh.i,Sh.i,Sh.l 2,Sh.s]
def JX:List OSh:=[OSh.box IM,OSh.row 9,OSh.frz 15,OSh.frz 4,OSh.frz 4,OSh.row 9,OSh.row 9,OSh.box BJ,OSh.row 8,OSh.box Qz,OSh.box Sq]
def Cb:List OSh:=[OSh.box IM,OSh.row 9,OSh.box C8,OSh.box C8,OSh.box C8,OSh.row 9,OSh.row 9,OSh.box BJ,OSh.row 8,OSh.box Qz,OSh.box Sq]
def Zk:List Sh:=[Sh.i,Sh.l 10,Sh.i,Sh.i]
def LX:List OSh:=[OSh.box IM,OSh.row 9,OSh.box C8,OSh.box C8,OSh.box C8,OSh.row 9,OSh.row 9,OSh.box BJ,OSh.row 8,OSh.box Qz,OSh.box Sq,OSh.box Zk]
def OF:List OSh:=[OSh.box IM,OSh.row 9,OSh.box C8,OSh.box C8,OSh.box C8,OSh.row 9,OSh.row 9,OSh.box BJ,OSh.row 8,OSh.box Qz]
def LW:List OSh:=[OSh.box IM,OSh.row 9,OSh.box C8,OSh.box C8,OSh.box C8,OSh.row 9,OSh.row 9,OSh.box BJ,OSh.box Zk]
def Ea:List FuncId:=[50,51,52,53,54,71,96,124,125,126,127,144]
noncomputable def J26_1 (n:Nat) (ff:Nat→Rec) (k26:KT) (p28:ST):RT:=k26 ([],rh p28 0 Dg)
noncomputable def ZQ (n:Nat) (ff:Nat→Rec) (k20:KT) (p70:ST):RT:=k20 (tv [tI (cI p70 8 0),.bool (cB p70 9 0)],rh p70 0 Be)
noncomputable def N8 (n:Nat) (ff:Nat→Rec) (p52:ST) (k20:KT) (p64:ST):RT:=AQ (.box [AV.yld 40,.t (tI (cI p52 7 29))]) (.box [AV.yld 40,.t (tI (cI p64 7 29))]) (join (ZQ n ff k20) fun k71=>cnd (vB p64 0=true) (cnd ((!(cB p64 9 0))=true) (k71 ([],upd (rh p64 0 Dg) [(8,.box [.t (tI (cI p52 7 29))]),(9,.box [.t (.bool true)])])) (cnd (decide (cI p52 7 29<cI p64 8 0)=true) (k71 ([],upd (rh p64 0 Dg) [(8,.box [.t (tI (cI p52 7 29))]),(9,.box [.t (.bool true)])])) (k71 ([],rh p64 0 Dg)))) (k71 ([],rh p64 0 Dg)))
noncomputable def Vr (n:Nat) (ff:Nat→Rec) (k20:KT) (p52:ST):RT:=join (N8 n ff p52 k20) fun k65=>cnd ((cI p52 7 30==1)=true) (k65 ([.t (.bool (!(decide (cI p52 7 11≥(10000:Int)))))],rh p52 0 Dg)) (k65 ([.t (.bool false)],rh p52 0 Dg))
noncomputable def PY (n:Nat) (ff:Nat→Rec) (k20:KT) (p39:ST):RT:=bd [0,1] (AA C n 122 (ct [0,13,0,0] p39 7 4 [])) fun y51=>join (Vr n ff k20) fun k53=>cnd (gB y51 1=true) (cnd ((!(cB p39 9 0))=true) (k53 ([],upd (rh p39 0 Dg) [(8,.box [.t (tI (gI y51 0))]),(9,.box [.t (.bool true)])])) (cnd (decide (gI y51 0<cI p39 8 0)=true) (k53 ([],upd (rh p39 0 Dg) [(8,.box [.t (tI (gI y51 0))]),(9,.box [.t (.bool true)])])) (k53 ([],rh p39 0 Dg)))) (k53 ([],rh p39 0 Dg))
noncomputable def PX (n:Nat) (ff:Nat→Rec) (k20:KT) (p25:ST):RT:=bd [0,1] (AA C n 122 (ct [0,13,0,0] p25 7 0 [])) fun y38=>join (PY n ff k20) fun k40=>cnd (gB y38 1=true) (cnd ((!(cB p25 9 0))=true) (k40 ([],upd (rh p25 0 Dg) [(8,.box [.t (tI (gI y38 0))]),(9,.box [.t (.bool true)])])) (cnd (decide (gI y38 0<cI p25 8 0)=true) (k40 ([],upd (rh p25 0 Dg) [(8,.box [.t (tI (gI y38 0))]),(9,.box [.t (.bool true)])])) (k40 ([],rh p25 0 Dg)))) (k40 ([],rh p25 0 Dg))
noncomputable def ZM (n:Nat) (ff:Nat→Rec) (k20:KT) (p23:ST):RT:=cnd (AB p23 1=AI p23 7 35) (join (PX n ff k20) fun k26=>cnd (decide ((AH p23 7 35:Int)>0)=true) (cnd (AB p23 1=AI p23 7 35∧9=9∧(0:Int)≤0∧0<(AH p23 7 35:Int)) (cnd (AB p23 1=AI p23 7 35) (cnd (AB p23 1=AI p23 7 35) (Option.bind (oEs p23 1)[AL p23 7 35]? fun y27=>cnd (okI y27 0) (join (J26_1 n ff k26) fun k29=>cnd ((!(cB p23 9 0))=true) (k29 ([],upd (rh p23 0 Dg) [(8,.box [.t (tI (gI y27 0))]),(9,.box [.t (.bool true)])])) (cnd (decide (gI y27 0<cI p23 8 0)=true) (k29 ([],upd (rh p23 0 Dg) [(8,.box [.t (tI (gI y27 0))]),(9,.box [.t (.bool true)])])) (k29 ([],rh p23 0 Dg)))) none) none) none) none) (k26 ([],rh p23 0 Dg))) none
noncomputable def Vx (n:Nat) (ff:Nat→Rec) (k20:KT) (p19:ST):RT:=ff 10 (List Tree) (.fn 96 [AV.ptr 7 0]) (rh p19 0 CA) fun rs h1=>cnd (A0 C.P (Ax C.P 96) rs=true) (Db (rh p19 0 CA) h1 fun hs=>k20 (rs,hs)) none
noncomputable def Vi (n:Nat) (ff:Nat→Rec) (k20:KT) (p19:ST):RT:=join (ZM n ff k20) fun k24=>cnd (decide (cI p19 7 11≥(10000:Int))=true) (cnd (AB p19 1=AI p19 7 35) (k24 ([],upd (rh p19 0 Dg) [(7,.box (upd (rb p19 7 0 BJ) [(35,.sref 1 (AI p19 7 35) (length (oEs p19 1)) 0)])),(8,.box [.t (tI 0)]),(9,.box [.t (.bool false)])])) none) (k24 ([],upd (rh p19 0 Dg) [(8,.box [.t (tI 0)]),(9,.box [.t (.bool false)])]))
theorem vC26_1 (n:Nat) (ff:Nat→Rec) (k20:KT) (p19:ST):DD C (FJ C (pcx C (AA C n)) n ff Ea 9) (pcx C (AA C n)) n 96 [AV.ptr 7 0] (rh p19 0 CA) (fun rs h1=>cnd (A0 C.P (Ax C.P 96) rs=true) (Db (rh p19 0 CA) h1 fun hs=>k20 (rs,hs)) none)=Vi n ff k20 p19:=by kernel_rfl
theorem XQ (n:Nat) (k20:KT) (p19:ST):Vx n (fI C n) k20 p19=Vi n (fI C n) k20 p19:=(FR C n Ea 9 _ 96 _ _ _).trans (vC26_1 n (fI C n) k20 p19)
noncomputable def Vq (n:Nat) (ff:Nat→Rec) (k91:KT) (p92:ST):RT:=cnd ((!(vB p92 0))=true) (k91 ([.t (.bool true)],rh p92 0 Be)) (k91 ([.t (.bool ((cI p92 7 29) != cI p92 7 15))],rh p92 0 Be))
noncomputable def Vp (n:Nat) (ff:Nat→Rec) (k89:KT) (p90:ST):RT:=cnd (vB p90 0=true) (k89 ([],rh p90 0 Be)) (bd [0,0,0,0,0,0,0,0,2,0,0,0,5,0,0,12,0] (AA C n 149 (ct kS p90 7 16 [tI (cI p90 7 15)])) fun y98=>cnd (((gI y98 16) != 0)=true) (k89 ([],upd (rh p90 0 Be) [(7,.box (upd (rb p90 7 0 BJ) [(29,.t (tI 0)),(30,.t (tI 3))]))])) (cnd (length (gL y98 15)=0∧AL p90 7 35+AH p90 7 35<length (oEs p90 1)) (cnd (AB p90 1=AI p90 7 35) (k89 ([],upd (rh p90 0 Be) [(7,.box (upd (rb p90 7 0 BJ) [(16,.t (tI (gI y98 0))),(17,.t (tI (gI y98 1))),(18,.t (tI (gI y98 2))),(19,.t (tI (gI y98 3))),(20,.t (tI (gI y98 4))),(21,.t (tI (gI y98 5))),(22,.t (tI (gI y98 6))),(23,.t (tI (gI y98 7))),(24,.t (.str (gS y98 8))),(25,.t (tI (gI y98 9))),(26,.t (tI (gI y98 10))),(27,.t (tI (gI y98 11))),(28,.t (.sl 2 (gL y98 12))),(29,.t (tI (gI y98 13))),(30,.t (tI (gI y98 14)))]))])) none) (cnd (AB p90 1=AI p90 7 35∧(9=9∨9=0)∧AL p90 7 35+AH p90 7 35≤length (oEs p90 1)∧AH p90 7 35+length (gL y98 15)≤1073741824) (k89 ([],upd (rh p90 0 Be) [(1,.row false (AI p90 7 35+1) 9 (take (AH p90 7 35) (drop (AL p90 7 35) (oEs p90 1))++gL y98 15)),(7,.box (upd (rb p90 7 0 BJ) [(16,.t (tI (gI y98 0))),(17,.t (tI (gI y98 1))),(18,.t (tI (gI y98 2))),(19,.t (tI (gI y98 3))),(20,.t (tI (gI y98 4))),(21,.t (tI (gI y98 5))),(22,.t (tI (gI y98 6))),(23,.t (tI (gI y98 7))),(24,.t (.str (gS y98 8))),(25,.t (tI (gI y98 9))),(26,.t (tI (gI y98 10))),(27,.t (tI (gI y98 11))),(28,.t (.sl 2 (gL y98 12))),(29,AV.t (tI (gI y98 13))),(30,.t (tI (gI y98 14))),(35,.sref 1 (AI p90 7 35+1) 0 (AH p90 7 35+length (gL y98 15)))]))])) none)))
noncomputable def Zj (n:Nat) (ff:Nat→Rec) (k89:KT) (p88:ST):RT:=ff 10 (List Tree) (.fn 127 [AV.ptr 7 0]) (rh p88 0 CA) fun rs h1=>cnd (A0 C.P (Ax C.P 127) rs=true) (Db (rh p88 0 CA) h1 fun hs=>k89 (rs,hs)) none
noncomputable def Sm (n:Nat) (ff:Nat→Rec) (k89:KT) (p88:ST):RT:=join (Vp n ff k89) fun k91=>join (Vq n ff k91) fun k93=>cnd ((cI p88 7 30==1)=true) (k93 ([.t (.bool (!(decide (cI p88 7 11≥(10000:Int)))))],rh p88 0 Be)) (k93 ([.t (.bool false)],rh p88 0 Be))
theorem vC26_2 (n:Nat) (ff:Nat→Rec) (k89:KT) (p88:ST):DD C (FJ C (pcx C (AA C n)) n ff Ea 9) (pcx C (AA C n)) n 127 [AV.ptr 7 0] (rh p88 0 CA) (fun rs h1=>cnd (A0 C.P (Ax C.P 127) rs=true) (Db (rh p88 0 CA) h1 fun hs=>k89 (rs,hs)) none)=Sm n ff k89 p88:=by kernel_rfl
theorem S0 (n:Nat) (k89:KT) (p88:ST):Zj n (fI C n) k89 p88=Sm n (fI C n) k89 p88:=(FR C n Ea 9 _ 127 _ _ _).trans (vC26_2 n (fI C n) k89 p88)
noncomputable def IG (n:Nat) (ff:Nat→Rec) (k87:KT) (p86 p99:ST):RT:=k87 ([.t (tI (w64 (vI p86 0+1)))],rh p99 0 Be)
noncomputable def Qr (n:Nat) (ff:Nat→Rec) (p108:ST) (k107:KT) (p130:ST):RT:=cnd (vB p130 0=true) (cnd (AB p130 8=AB p108 8+1∧8≤8) (Option.bind (oEs p130 8)[0]? fun y132=>k107 ([.rptr 8 (AB p108 8+1) 0 0,.t (.bool false)],upd (rh p130 0 Cc) [(8,.row false (AB p108 8+1) 8 (List.set (oEs p130 8) 0 (zt kG []++drop 8 y132)))])) none) (bd [0,13,0,0,0,0,0,0,0,0,0,1,2,5,0] (AA C n 158 (ct [0,13,0,0] p130 7 4 [])) fun y133=>cnd (AB p130 8=AB p108 8+1∧8≤8) (Option.bind (oEs p130 8)[0]? fun y134=>k107 ([.rptr 8 (AB p108 8+1) 0 0,.t (.bool true)],upd (rh p130 0 Cc) [(7,.box (upd (rb p130 7 0 BJ) [(4,.t (tI (gI y133 0))),(5,.t (.sl 10 (gL y133 1))),(6,.t (tI (gI y133 2))),(7,.t (tI (gI y133 3)))])),(8,.row false (AB p108 8+1) 8 (List.set (oEs p130 8) 0 (gt kG y133 6 []++drop 8 y134)))])) none)
noncomputable def OA (n:Nat) (ff:Nat→Rec) (p106:ST) (k107:KT) (p108:ST):RT:=cnd (AB p108 8=CQ p106 0) (Option.bind (oEs p108 8)[0]? fun y128=>bk kG 0 y128 (cnd (AB p108 8+1=AB p108 8+1∧8≤8) (bd [0,1] (AA C n 122 (ct [0,13,0,0] p108 7 4 [])) fun y129=>join (Qr n ff p108 k107) fun k131=>cnd ((!(gB y129 1))=true) (k131 ([.t (.bool true)],upd (rh p108 0 LY) [(8,.row false (AB p108 8+1) 8 [[tI (gI y128 0),tI (gI y128 1),tI (gI y128 2),tI (gI y128 3),tI (gI y128 4),.bool (gB y128 5),.str (gS y128 6),.sl 2 (gL y128 7)]]),(9,.box (tv (zt kG [])))])) (k131 ([.t (.bool ((gI y129 0) != cI p108 7 15))],upd (rh p108 0 LY) [(8,.row false (AB p108 8+1) 8 [[tI (gI y128 0),tI (gI y128 1),tI (gI y128 2),tI (gI y128 3),tI (gI y128 4),.bool (gB y128 5),.str (gS y128 6),.sl 2 (gL y128 7)]]),(9,.box (tv (zt kG [])))]))) none)) none
noncomputable def FP (n:Nat) (ff:Nat→Rec) (k102:KT) (p106:ST) (k107:KT):RT:=cnd (vB p106 1=true) (join (OA n ff p106 k107) fun k109=>cnd (decide (cI p106 7 15<cI p106 7 26)=true) (k109 ([],rh p106 0 Cc)) (cnd (AB p106 8=CQ p106 0) (Option.bind (oEs p106 8)[0]? fun y110=>bk kG 0 y110 (bd [0,0,0,0,0,0,0,0,2,0,0,0,5,0,0,12,0] (AA C n 148 (ct kS p106 7 16 (tI (cI p106 7 15)::gt kG y110 0 []))) fun y111=>cnd (((gI y111 16) != 0)=true) (k109 ([],rh p106 0 Cc)) (cnd (length (gL y111 15)=0∧AL p106 7 35+AH p106 7 35<length (oEs p106 1)) (cnd (AB p106 1=AI p106 7 35) (cnd ((!(cB p106 7 38))=true) (cnd ((gI y111 14==2)=true) (k109 ([],upd (rh p106 0 Cc) [(7,.box (upd (rb p106 7 0 BJ) [(16,.t (tI (gI y111 0))),(17,.t (tI (gI y111 1))),(18,.t (tI (gI y111 2))),(19,.t (tI (gI y111 3))),(20,.t (tI (gI y111 4))),(21,.t (tI (gI y111 5))),(22,.t (tI (gI y111 6))),(23,.t (tI (gI y111 7))),(24,.t (.str (gS y111 8))),(25,.t (tI (gI y111 9))),(26,AV.t (tI (gI y111 10))),(27,.t (tI (gI y111 11))),(28,.t (.sl 2 (gL y111 12))),(29,.t (tI (gI y111 13))),(30,.t (tI (gI y111 14))),(38,.t (.bool true)),(39,.t (tI (cI p106 7 15)))]))])) (k109 ([],upd (rh p106 0 Cc) [(7,.box (upd (rb p106 7 0 BJ) [(16,.t (tI (gI y111 0))),(17,.t (tI (gI y111 1))),(18,.t (tI (gI y111 2))),(19,.t (tI (gI y111 3))),(20,.t (tI (gI y111 4))),(21,.t (tI (gI y111 5))),(22,.t (tI (gI y111 6))),(23,.t (tI (gI y111 7))),(24,.t (.str (gS y111 8))),(25,.t (tI (gI y111 9))),(26,.t (tI (gI y111 10))),(27,.t (tI (gI y111 11))),(28,.t (.sl 2 (gL y111 12))),(29,.t (tI (gI y111 13))),(30,.t (tI (gI y111 14)))]))]))) (k109 ([],upd (rh p106 0 Cc) [(7,.box (upd (rb p106 7 0 BJ) [(16,.t (tI (gI y111 0))),(17,.t (tI (gI y111 1))),(18,.t (tI (gI y111 2))),(19,.t (tI (gI y111 3))),(20,.t (tI (gI y111 4))),(21,.t (tI (gI y111 5))),(22,.t (tI (gI y111 6))),(23,.t (tI (gI y111 7))),(24,.t (.str (gS y111 8))),(25,.t (tI (gI y111 9))),(26,.t (tI (gI y111 10))),(27,.t (tI (gI y111 11))),(28,.t (.sl 2 (gL y111 12))),(29,.t (tI (gI y111 13))),(30,.t (tI (gI y111 14)))]))]))) none) (cnd (AB p106 1=AI p106 7 35∧(9=9∨9=0)∧AL p106 7 35+AH p106 7 35≤length (oEs p106 1)∧AH p106 7 35+length (gL y111 15)≤1073741824) (cnd ((!(cB p106 7 38))=true) (cnd ((gI y111 14==2)=true) (k109 ([],upd (rh p106 0 Cc) [(1,.row false (AI p106 7 35+1) 9 (take (AH p106 7 35) (drop (AL p106 7 35) (oEs p106 1))++gL y111 15)),(7,.box (upd (rb p106 7 0 BJ) [(16,.t (tI (gI y111 0))),(17,.t (tI (gI y111 1))),(18,.t (tI (gI y111 2))),(19,.t (tI (gI y111 3))),(20,.t (tI (gI y111 4))),(21,.t (tI (gI y111 5))),(22,.t (tI (gI y111 6))),(23,.t (tI (gI y111 7))),(24,.t (.str (gS y111 8))),(25,.t (tI (gI y111 9))),(26,.t (tI (gI y111 10))),(27,.t (tI (gI y111 11))),(28,.t (.sl 2 (gL y111 12))),(29,.t (tI (gI y111 13))),(30,.t (tI (gI y111 14))),(35,.sref 1 (AI p106 7 35+1) 0 (AH p106 7 35+length (gL y111 15))),(38,.t (.bool true)),(39,.t (tI (cI p106 7 15)))]))])) (k109 ([],upd (rh p106 0 Cc) [(1,.row false (AI p106 7 35+1) 9 (take (AH p106 7 35) (drop (AL p106 7 35) (oEs p106 1))++gL y111 15)),(7,.box (upd (rb p106 7 0 BJ) [(16,.t (tI (gI y111 0))),(17,.t (tI (gI y111 1))),(18,.t (tI (gI y111 2))),(19,AV.t (tI (gI y111 3))),(20,.t (tI (gI y111 4))),(21,.t (tI (gI y111 5))),(22,.t (tI (gI y111 6))),(23,.t (tI (gI y111 7))),(24,.t (.str (gS y111 8))),(25,.t (tI (gI y111 9))),(26,.t (tI (gI y111 10))),(27,.t (tI (gI y111 11))),(28,.t (.sl 2 (gL y111 12))),(29,.t (tI (gI y111 13))),(30,.t (tI (gI y111 14))),(35,.sref 1 (AI p106 7 35+1) 0 (AH p106 7 35+length (gL y111 15)))]))]))) (k109 ([],upd (rh p106 0 Cc) [(1,.row false (AI p106 7 35+1) 9 (take (AH p106 7 35) (drop (AL p106 7 35) (oEs p106 1))++gL y111 15)),(7,.box (upd (rb p106 7 0 BJ) [(16,.t (tI (gI y111 0))),(17,.t (tI (gI y111 1))),(18,.t (tI (gI y111 2))),(19,.t (tI (gI y111 3))),(20,.t (tI (gI y111 4))),(21,.t (tI (gI y111 5))),(22,.t (tI (gI y111 6))),(23,.t (tI (gI y111 7))),(24,.t (.str (gS y111 8))),(25,.t (tI (gI y111 9))),(26,.t (tI (gI y111 10))),(27,.t (tI (gI y111 11))),(28,.t (.sl 2 (gL y111 12))),(29,.t (tI (gI y111 13))),(30,.t (tI (gI y111 14))),(35,.sref 1 (AI p106 7 35+1) 0 (AH p106 7 35+length (gL y111 15)))]))]))) none)))) none)) (k102 ([],rh p106 0 Be))
noncomputable def Qq (n:Nat) (ff:Nat→Rec) (k102:KT) (p104:ST):RT:=cnd (vB p104 0=true) (AJ (FP n ff k102) n ([.rptr 8 0 0 0,.t (.bool false)],upd (rh p104 0 Cc) [(8,.row false 0 8 [[tI 0,tI 0,tI 0,tI 0,tI 0,.bool false,.str B0,.sl 2 []]])])) (bd [0,13,0,0,0,0,0,0,0,0,0,1,2,5,0] (AA C n 158 (ct [0,13,0,0] p104 7 4 [])) fun y135=>AJ (FP n ff k102) n ([.rptr 8 0 0 0,.t (.bool true)],upd (rh p104 0 Cc) [(7,.box (upd (rb p104 7 0 BJ) [(4,.t (tI (gI y135 0))),(5,.t (.sl 10 (gL y135 1))),(6,.t (tI (gI y135 2))),(7,.t (tI (gI y135 3)))])),(8,.row false 0 8 [[tI (gI y135 6),tI (gI y135 7),tI (gI y135 8),tI (gI y135 9),tI (gI y135 10),.bool (gB y135 11),.str (gS y135 12),.sl 2 (gL y135 13)]])]))
noncomputable def Zi (n:Nat) (ff:Nat→Rec) (k102:KT) (p101:ST):RT:=ff 10 (List Tree) (.fn 126 [AV.ptr 7 0]) (rh p101 0 CA) fun rs h1=>cnd (A0 C.P (Ax C.P 126) rs=true) (Db (rh p101 0 CA) h1 fun hs=>k102 (rs,hs)) none
noncomputable def Sl (n:Nat) (ff:Nat→Rec) (k102:KT) (p101:ST):RT:=bd [0,1] (AA C n 122 (ct [0,13,0,0] p101 7 4 [])) fun y103=>join (Qq n ff k102) fun k105=>cnd ((!(gB y103 1))=true) (k105 ([.t (.bool true)],upd (rh p101 0 PZ) [(8,.box (tv (zt kG [])))])) (k105 ([.t (.bool ((gI y103 0) != cI p101 7 15))],upd (rh p101 0 PZ) [(8,.box (tv (zt kG [])))]))
theorem vC26_3 (n:Nat) (ff:Nat→Rec) (k102:KT) (p101:ST):DD C (FJ C (pcx C (AA C n)) n ff Ea 9) (pcx C (AA C n)) n 126 [AV.ptr 7 0] (rh p101 0 CA) (fun rs h1=>cnd (A0 C.P (Ax C.P 126) rs=true) (Db (rh p101 0 CA) h1 fun hs=>k102 (rs,hs)) none)=Sl n ff k102 p101:=by kernel_rfl
theorem Sz (n:Nat) (k102:KT) (p101:ST):Zi n (fI C n) k102 p101=Sl n (fI C n) k102 p101:=(FR C n Ea 9 _ 126 _ _ _).trans (vC26_3 n (fI C n) k102 p101)
noncomputable def Dw (n:Nat) (ff:Nat→Rec) (p181:ST) (k182:KT) (y189:List Tree) (p194:ST):RT:=cnd (vB p194 0=true) (AQ (.box [AV.yld 40,.t (tI (cI p181 7 4)),.t (.sl 10 (cL p181 7 5)),.t (tI (cI p181 7 6)),.t (tI (cI p181 7 7))]) (.box [AV.yld 40,.t (tI (cI p194 7 4)),.t (.sl 10 (cL p194 7 5)),.t (tI (cI p194 7 6)),.t (tI (cI p194 7 7))]) (AQ (.box [AV.yld 40,.t (tI (cI p181 7 4))]) (.box [AV.yld 40,.t (tI (cI p194 7 4))]) (AQ (.row false (AB p181 5) 9 (oEs p181 5)) (.row false (AB p194 5) 9 (oEs p194 5)) (AQ (.row false (AB p181 6) 9 (oEs p181 6)) (.row false (AB p194 6) 9 (oEs p194 6)) (AQ (.row false (AB p181 1) 9 (oEs p181 1)) (.row false (AB p194 1) 9 (oEs p194 1)) (bd [0,13,0,0,0] (AA C n 156 (ct [0,13,0,0] p181 7 4 [tI (vI p181 3),tI (aI p181 4 0),tI (aI p181 4 1),tI (aI p181 4 2),tI (aI p181 4 3),tI (aI p181 4 4),.bool (aB p181 4 5),.str (aS p181 4 6),.sl 2 (aL p181 4 7),.sl 1 [[tI (cI p181 7 4)]]])) fun y196=>cnd (((gI y196 4) != 0)=true) (k182 ([],rh p194 0 Cb)) (cnd (AB p194 6=AI p194 7 14∧(9=9∨9=0)∧AL p194 7 14+AH p194 7 14≤length (oEs p194 6)∧AH p194 7 14+1≤1073741824) (k182 ([],upd (rh p194 0 Cb) [(6,.row false (AI p194 7 14+1) 9 (take (AH p194 7 14) (drop (AL p194 7 14) (oEs p194 6))++[[tI (vI p181 3),tI (aI p181 4 0),tI (aI p181 4 1),tI (aI p181 4 2),tI (aI p181 4 3),tI (aI p181 4 4),Tree.bool (aB p181 4 5),.str (aS p181 4 6),.sl 2 (aL p181 4 7)]])),(7,.box (upd (rb p194 7 0 BJ) [(4,.t (tI (gI y196 0))),(5,.t (.sl 10 (gL y196 1))),(6,.t (tI (gI y196 2))),(7,.t (tI (gI y196 3))),(11,.t (tI (w64 (cI p194 7 11+1)))),(14,.sref 6 (AI p194 7 14+1) 0 (AH p194 7 14+1))]))])) none))))))) (AQ (.box [AV.yld 40,.t (tI (cI p181 7 4)),.t (.sl 10 (cL p181 7 5)),.t (tI (cI p181 7 6)),.t (tI (cI p181 7 7))]) (.box [AV.yld 40,.t (tI (cI p194 7 4)),.t (.sl 10 (cL p194 7 5)),.t (tI (cI p194 7 6)),.t (tI (cI p194 7 7))]) (AQ (.box [AV.yld 40,.t (tI (cI p181 7 4))]) (.box [AV.yld 40,.t (tI (cI p194 7 4))]) (AQ (.row false (AB p181 5) 9 (oEs p181 5)) (.row false (AB p194 5) 9 (oEs p194 5)) (AQ (.row false (AB p181 6) 9 (oEs p181 6)) (.row false (AB p194 6) 9 (oEs p194 6)) (AQ (.row false (AB p181 1) 9 (oEs p181 1)) (.row false (AB p194 1) 9 (oEs p194 1)) (bd [0,13,0,0,0] (AA C n 156 (ct [0,13,0,0] p181 7 4 [tI (vI p181 3),tI (aI p181 4 0),tI (aI p181 4 1),tI (aI p181 4 2),tI (aI p181 4 3),tI (aI p181 4 4),.bool (aB p181 4 5),.str (aS p181 4 6),.sl 2 (aL p181 4 7),.sl 1 (gL y189 0)])) fun y197=>cnd (((gI y197 4) != 0)=true) (k182 ([],upd (rh p194 0 Cb) [(7,.box (upd (rb p194 7 0 BJ) [(12,.t (tI (w64 (cI p194 7 12+1))))]))])) (cnd (AB p194 6=AI p194 7 14∧(9=9∨9=0)∧AL p194 7 14+AH p194 7 14≤length (oEs p194 6)∧AH p194 7 14+1≤1073741824) (k182 ([],upd (rh p194 0 Cb) [(6,.row false (AI p194 7 14+1) 9 (take (AH p194 7 14) (drop (AL p194 7 14) (oEs p194 6))++[[tI (vI p181 3),tI (aI p181 4 0),tI (aI p181 4 1),tI (aI p181 4 2),tI (aI p181 4 3),tI (aI p181 4 4),.bool (aB p181 4 5),.str (aS p181 4 6),.sl 2 (aL p181 4 7)]])),(7,.box (upd (rb p194 7 0 BJ) [(4,.t (tI (gI y197 0))),(5,.t (.sl 10 (gL y197 1))),(6,.t (tI (gI y197 2))),(7,.t (tI (gI y197 3))),(11,.t (tI (w64 (cI p194 7 11+1)))),(12,.t (tI (w64 (cI p194 7 12+1)))),(14,.sref 6 (AI p194 7 14+1) 0 (AH p194 7 14+1))]))])) none)))))))
noncomputable def IF (n:Nat) (ff:Nat→Rec) (p181:ST) (y189:List Tree) (k182:KT) (p190:ST):RT:=cnd (vB p190 0=true) (AQ (.box [AV.yld 40,.t (tI (cI p181 7 4)),.t (.sl 10 (cL p181 7 5)),.t (tI (cI p181 7 6)),.t (tI (cI p181 7 7))]) (.box [AV.yld 40,.t (tI (cI p190 7 4)),.t (.sl 10 (cL p190 7 5)),.t (tI (cI p190 7 6)),.t (tI (cI p190 7 7))]) (AQ (.box [AV.yld 40,.t (tI (cI p181 7 4))]) (.box [AV.yld 40,.t (tI (cI p190 7 4))]) (AQ (.row false (AB p181 5) 9 (oEs p181 5)) (.row false (AB p190 5) 9 (oEs p190 5)) (AQ (.row false (AB p181 6) 9 (oEs p181 6)) (.row false (AB p190 6) 9 (oEs p190 6)) (AQ (.row false (AB p181 1) 9 (oEs p181 1)) (.row false (AB p190 1) 9 (oEs p190 1)) (bd [0,13,0,0,0] (AA C n 156 (ct [0,13,0,0] p181 7 4 [tI (vI p181 3),tI (aI p181 4 0),tI (aI p181 4 1),tI (aI p181 4 2),tI (aI p181 4 3),tI (aI p181 4 4),.bool (aB p181 4 5),.str (aS p181 4 6),.sl 2 (aL p181 4 7),.sl 1 (gL y189 0)])) fun y193=>cnd (((gI y193 4) != 0)=true) (k182 ([],rh p190 0 Cb)) (cnd (AB p190 6=AI p190 7 14∧(9=9∨9=0)∧AL p190 7 14+AH p190 7 14≤length (oEs p190 6)∧AH p190 7 14+1≤1073741824) (k182 ([],upd (rh p190 0 Cb) [(6,.row false (AI p190 7 14+1) 9 (take (AH p190 7 14) (drop (AL p190 7 14) (oEs p190 6))++[[tI (vI p181 3),tI (aI p181 4 0),tI (aI p181 4 1),tI (aI p181 4 2),tI (aI p181 4 3),tI (aI p181 4 4),.bool (aB p181 4 5),.str (aS p181 4 6),.sl 2 (aL p181 4 7)]])),(7,.box (upd (rb p190 7 0 BJ) [(4,.t (tI (gI y193 0))),(5,.t (.sl 10 (gL y193 1))),(6,.t (tI (gI y193 2))),(7,.t (tI (gI y193 3))),(11,.t (tI (w64 (cI p190 7 11+1)))),(14,.sref 6 (AI p190 7 14+1) 0 (AH p190 7 14+1))]))])) none))))))) (join (Dw n ff p181 k182 y189) fun k195=>cnd (decide (cI p190 7 9≥(0:Int))=true) (k195 ([.t (.bool (decide (cI p190 7 12≥cI p190 7 9)))],rh p190 0 LX)) (k195 ([.t (.bool false)],rh p190 0 LX)))
noncomputable def IE (n:Nat) (ff:Nat→Rec) (p181:ST) (y202:List Tree) (k182:KT) (p203:ST):RT:=cnd (vB p203 0=true) (AQ (.box [AV.yld 40,.t (tI (cI p181 7 4)),.t (.sl 10 (cL p181 7 5)),.t (tI (cI p181 7 6)),.t (tI (cI p181 7 7))]) (.box [AV.yld 40,.t (tI (cI p203 7 4)),.t (.sl 10 (cL p203 7 5)),.t (tI (cI p203 7 6)),.t (tI (cI p203 7 7))]) (AQ (.box [AV.yld 40,.t (tI (cI p181 7 4))]) (.box [AV.yld 40,.t (tI (cI p203 7 4))]) (AQ (.row false (AB p181 5) 9 (oEs p181 5)) (.row false (AB p203 5) 9 (oEs p203 5)) (AQ (.row false (AB p181 6) 9 (oEs p181 6)) (.row false (AB p203 6) 9 (oEs p203 6)) (AQ (.row false (AB p181 1) 9 (oEs p181 1)) (.row false (AB p203 1) 9 (oEs p203 1)) (bd [0,13,0,0,0] (AA C n 156 (ct [0,13,0,0] p181 7 4 [tI (vI p181 3),tI (aI p181 4 0),tI (aI p181 4 1),tI (aI p181 4 2),tI (aI p181 4 3),tI (aI p181 4 4),.bool (aB p181 4 5),.str (aS p181 4 6),.sl 2 (aL p181 4 7),.sl 1 (gL y202 0)])) fun y206=>cnd (((gI y206 4) != 0)=true) (k182 ([],rh p203 0 Cb)) (cnd (AB p203 6=AI p203 7 14∧(9=9∨9=0)∧AL p203 7 14+AH p203 7 14≤length (oEs p203 6)∧AH p203 7 14+1≤1073741824) (k182 ([],upd (rh p203 0 Cb) [(6,.row false (AI p203 7 14+1) 9 (take (AH p203 7 14) (drop (AL p203 7 14) (oEs p203 6))++[[tI (vI p181 3),tI (aI p181 4 0),tI (aI p181 4 1),tI (aI p181 4 2),tI (aI p181 4 3),tI (aI p181 4 4),.bool (aB p181 4 5),.str (aS p181 4 6),.sl 2 (aL p181 4 7)]])),(7,.box (upd (rb p203 7 0 BJ) [(4,.t (tI (gI y206 0))),(5,.t (.sl 10 (gL y206 1))),(6,.t (tI (gI y206 2))),(7,.t (tI (gI y206 3))),(11,.t (tI (w64 (cI p203 7 11+1)))),(14,.sref 6 (AI p203 7 14+1) 0 (AH p203 7 14+1))]))])) none))))))) (join (Dw n ff p181 k182 y202) fun k208=>cnd (decide (cI p203 7 9≥(0:Int))=true) (k208 ([.t (.bool (decide (cI p203 7 12≥cI p203 7 9)))],rh p203 0 Cb)) (k208 ([.t (.bool false)],rh p203 0 Cb)))
noncomputable def Zh (n:Nat) (ff:Nat→Rec) (k182:KT) (p181:ST):RT:=ff 9 (List Tree) (.fn 144 [AV.ptr 7 0,AV.ptr 7 4,.t (tI 1),.t (tI (vI p181 3)),AV.agg (tv [tI (aI p181 4 0),tI (aI p181 4 1),tI (aI p181 4 2),tI (aI p181 4 3),tI (aI p181 4 4),.bool (aB p181 4 5),.str (aS p181 4 6),.sl 2 (aL p181 4 7)])]) (rh p181 0 JX) fun rs h1=>cnd (A0 C.P (Ax C.P 144) rs=true) (Db (rh p181 0 JX) h1 fun hs=>k182 (rs,hs)) none
noncomputable def H5 (n:Nat) (ff:Nat→Rec) (k182:KT) (p181:ST):RT:=cnd (decide (cI p181 7 11≥(10000:Int))=true) (k182 ([],rh p181 0 Cb)) (both (bd [1] (AA C n 175 [.sl 2 (cL p181 7 10),tI (vI p181 3)]) fun y185=>cnd (gB y185 0=true) (AQ (.box [AV.yld 40,.t (tI (cI p181 7 4)),.t (.sl 10 (cL p181 7 5)),.t (tI (cI p181 7 6)),.t (tI (cI p181 7 7))]) (.box [AV.yld 40,.t (tI (cI p181 7 4)),.t (.sl 10 (cL p181 7 5)),.t (tI (cI p181 7 6)),.t (tI (cI p181 7 7))]) (AQ (.box [AV.yld 40,.t (tI (cI p181 7 4))]) (.box [AV.yld 40,.t (tI (cI p181 7 4))]) (AQ (.row false (AB p181 5) 9 (oEs p181 5)) (.row false (AB p181 5) 9 (oEs p181 5)) (AQ (.row false (AB p181 6) 9 (oEs p181 6)) (.row false (AB p181 6) 9 (oEs p181 6)) (AQ (.row false (AB p181 1) 9 (oEs p181 1)) (.row false (AB p181 1) 9 (oEs p181 1)) (bd [0,13,0,0,0] (AA C n 156 (ct [0,13,0,0] p181 7 4 [tI (vI p181 3),tI (aI p181 4 0),tI (aI p181 4 1),tI (aI p181 4 2),tI (aI p181 4 3),tI (aI p181 4 4),.bool (aB p181 4 5),.str (aS p181 4 6),.sl 2 (aL p181 4 7),.sl 1 []])) fun y186=>cnd (((gI y186 4) != 0)=true) (k182 ([],rh p181 0 Cb)) (cnd (AB p181 6=AI p181 7 14∧(9=9∨9=0)∧AL p181 7 14+AH p181 7 14≤length (oEs p181 6)∧AH p181 7 14+1≤1073741824) (k182 ([],upd (rh p181 0 Cb) [(6,.row false (AI p181 7 14+1) 9 (take (AH p181 7 14) (drop (AL p181 7 14) (oEs p181 6))++[[tI (vI p181 3),tI (aI p181 4 0),tI (aI p181 4 1),tI (aI p181 4 2),tI (aI p181 4 3),tI (aI p181 4 4),.bool (aB p181 4 5),.str (aS p181 4 6),.sl 2 (aL p181 4 7)]])),(7,.box (upd (rb p181 7 0 BJ) [(4,.t (tI (gI y186 0))),(5,.t (.sl 10 (gL y186 1))),(6,.t (tI (gI y186 2))),(7,.t (tI (gI y186 3))),(11,.t (tI (w64 (cI p181 7 11+1)))),(14,.sref 6 (AI p181 7 14+1) 0 (AH p181 7 14+1))]))])) none))))))) (cnd (((length (cL p181 7 8):Int)==0)=true) (AQ (.box [AV.yld 40,.t (tI (cI p181 7 4)),.t (.sl 10 (cL p181 7 5)),.t (tI (cI p181 7 6)),.t (tI (cI p181 7 7))]) (.box [AV.yld 40,.t (tI (cI p181 7 4)),.t (.sl 10 (cL p181 7 5)),.t (tI (cI p181 7 6)),.t (tI (cI p181 7 7))]) (AQ (.box [AV.yld 40,.t (tI (cI p181 7 4))]) (.box [AV.yld 40,.t (tI (cI p181 7 4))]) (AQ (.row false (AB p181 5) 9 (oEs p181 5)) (.row false (AB p181 5) 9 (oEs p181 5)) (AQ (.row false (AB p181 6) 9 (oEs p181 6)) (.row false (AB p181 6) 9 (oEs p181 6)) (AQ (.row false (AB p181 1) 9 (oEs p181 1)) (.row false (AB p181 1) 9 (oEs p181 1)) (bd [0,13,0,0,0] (AA C n 156 (ct [0,13,0,0] p181 7 4 [tI (vI p181 3),tI (aI p181 4 0),tI (aI p181 4 1),tI (aI p181 4 2),tI (aI p181 4 3),tI (aI p181 4 4),.bool (aB p181 4 5),.str (aS p181 4 6),.sl 2 (aL p181 4 7),.sl 1 [[tI (cI p181 7 4)]]])) fun y187=>cnd (((gI y187 4) != 0)=true) (k182 ([],rh p181 0 Cb)) (cnd (AB p181 6=AI p181 7 14∧(9=9∨9=0)∧AL p181 7 14+AH p181 7 14≤length (oEs p181 6)∧AH p181 7 14+1≤1073741824) (k182 ([],upd (rh p181 0 Cb) [(6,.row false (AI p181 7 14+1) 9 (take (AH p181 7 14) (drop (AL p181 7 14) (oEs p181 6))++[[tI (vI p181 3),tI (aI p181 4 0),tI (aI p181 4 1),tI (aI p181 4 2),tI (aI p181 4 3),tI (aI p181 4 4),.bool (aB p181 4 5),.str (aS p181 4 6),.sl 2 (aL p181 4 7)]])),(7,.box (upd (rb p181 7 0 BJ) [(4,.t (tI (gI y187 0))),(5,.t (.sl 10 (gL y187 1))),(6,.t (tI (gI y187 2))),(7,.t (tI (gI y187 3))),(11,.t (tI (w64 (cI p181 7 11+1)))),(14,.sref 6 (AI p181 7 14+1) 0 (AH p181 7 14+1))]))])) none))))))) (cnd ((length (cL p181 7 8):Int)=0) none (cnd (1=1∧0≤tmod (cI p181 7 11) (length (cL p181 7 8):Int)) (Option.bind (cL p181 7 8)[toNat (tmod (cI p181 7 11) (length (cL p181 7 8):Int))]? fun y188=>cnd (okI y188 0) (bd [4,0] (AA C n 176 [tI (gI y188 0),tI (cI p181 7 4)]) fun y189=>join (IF n ff p181 y189 k182) fun k191=>cnd (decide ((length (gL y189 0):Int)>0)=true) (Option.bind (gL y189 0)[0]? fun y192=>cnd (okI y192 0) (k191 ([.t (.bool (gI y192 0==cI p181 7 4))],upd (rh p181 0 LX) [(11,.box (tv (zt [0,13,0,0] [])))])) none) (k191 ([.t (.bool false)],upd (rh p181 0 LX) [(11,.box (tv (zt [0,13,0,0] [])))]))) none) none)))) (bd [1] (AA C n 175 [.sl 2 (cL p181 7 10),tI (vI p181 3)]) fun y198=>cnd (gB y198 0=true) (AQ (.box [AV.yld 40,.t (tI (cI p181 7 4)),.t (.sl 10 (cL p181 7 5)),.t (tI (cI p181 7 6)),.t (tI (cI p181 7 7))]) (.box [AV.yld 40,.t (tI (cI p181 7 4)),.t (.sl 10 (cL p181 7 5)),.t (tI (cI p181 7 6)),.t (tI (cI p181 7 7))]) (AQ (.box [AV.yld 40,.t (tI (cI p181 7 4))]) (.box [AV.yld 40,.t (tI (cI p181 7 4))]) (AQ (.row false (AB p181 5) 9 (oEs p181 5)) (.row false (AB p181 5) 9 (oEs p181 5)) (AQ (.row false (AB p181 6) 9 (oEs p181 6)) (.row false (AB p181 6) 9 (oEs p181 6)) (AQ (.row false (AB p181 1) 9 (oEs p181 1)) (.row false (AB p181 1) 9 (oEs p181 1)) (bd [0,13,0,0,0] (AA C n 156 (ct [0,13,0,0] p181 7 4 [tI (vI p181 3),tI (aI p181 4 0),tI (aI p181 4 1),tI (aI p181 4 2),tI (aI p181 4 3),tI (aI p181 4 4),.bool (aB p181 4 5),.str (aS p181 4 6),.sl 2 (aL p181 4 7),.sl 1 []])) fun y199=>cnd (((gI y199 4) != 0)=true) (k182 ([],rh p181 0 Cb)) (cnd (AB p181 6=AI p181 7 14∧(9=9∨9=0)∧AL p181 7 14+AH p181 7 14≤length (oEs p181 6)∧AH p181 7 14+1≤1073741824) (k182 ([],upd (rh p181 0 Cb) [(6,.row false (AI p181 7 14+1) 9 (take (AH p181 7 14) (drop (AL p181 7 14) (oEs p181 6))++[[tI (vI p181 3),tI (aI p181 4 0),tI (aI p181 4 1),tI (aI p181 4 2),tI (aI p181 4 3),tI (aI p181 4 4),.bool (aB p181 4 5),.str (aS p181 4 6),.sl 2 (aL p181 4 7)]])),(7,.box (upd (rb p181 7 0 BJ) [(4,.t (tI (gI y199 0))),(5,.t (.sl 10 (gL y199 1))),(6,.t (tI (gI y199 2))),(7,.t (tI (gI y199 3))),(11,.t (tI (w64 (cI p181 7 11+1)))),(14,.sref 6 (AI p181 7 14+1) 0 (AH p181 7 14+1))]))])) none))))))) (cnd (((length (cL p181 7 8):Int)==0)=true) (AQ (.box [AV.yld 40,.t (tI (cI p181 7 4)),.t (.sl 10 (cL p181 7 5)),.t (tI (cI p181 7 6)),.t (tI (cI p181 7 7))]) (.box [AV.yld 40,.t (tI (cI p181 7 4)),.t (.sl 10 (cL p181 7 5)),.t (tI (cI p181 7 6)),.t (tI (cI p181 7 7))]) (AQ (.box [AV.yld 40,.t (tI (cI p181 7 4))]) (.box [AV.yld 40,.t (tI (cI p181 7 4))]) (AQ (.row false (AB p181 5) 9 (oEs p181 5)) (.row false (AB p181 5) 9 (oEs p181 5)) (AQ (.row false (AB p181 6) 9 (oEs p181 6)) (.row false (AB p181 6) 9 (oEs p181 6)) (AQ (.row false (AB p181 1) 9 (oEs p181 1)) (.row false (AB p181 1) 9 (oEs p181 1)) (bd [0,13,0,0,0] (AA C n 156 (ct [0,13,0,0] p181 7 4 [tI (vI p181 3),tI (aI p181 4 0),tI (aI p181 4 1),tI (aI p181 4 2),tI (aI p181 4 3),tI (aI p181 4 4),.bool (aB p181 4 5),.str (aS p181 4 6),.sl 2 (aL p181 4 7),.sl 1 [[tI (cI p181 7 4)]]])) fun y200=>cnd (((gI y200 4) != 0)=true) (k182 ([],rh p181 0 Cb)) (cnd (AB p181 6=AI p181 7 14∧(9=9∨9=0)∧AL p181 7 14+AH p181 7 14≤length (oEs p181 6)∧AH p181 7 14+1≤1073741824) (k182 ([],upd (rh p181 0 Cb) [(6,.row false (AI p181 7 14+1) 9 (take (AH p181 7 14) (drop (AL p181 7 14) (oEs p181 6))++[[tI (vI p181 3),tI (aI p181 4 0),tI (aI p181 4 1),tI (aI p181 4 2),tI (aI p181 4 3),tI (aI p181 4 4),.bool (aB p181 4 5),.str (aS p181 4 6),.sl 2 (aL p181 4 7)]])),(7,.box (upd (rb p181 7 0 BJ) [(4,AV.t (tI (gI y200 0))),(5,.t (.sl 10 (gL y200 1))),(6,.t (tI (gI y200 2))),(7,.t (tI (gI y200 3))),(11,.t (tI (w64 (cI p181 7 11+1)))),(14,.sref 6 (AI p181 7 14+1) 0 (AH p181 7 14+1))]))])) none))))))) (cnd ((length (cL p181 7 8):Int)=0) none (cnd (1=1∧0≤tmod (cI p181 7 11) (length (cL p181 7 8):Int)) (Option.bind (cL p181 7 8)[toNat (tmod (cI p181 7 11) (length (cL p181 7 8):Int))]? fun y201=>cnd (okI y201 0) (bd [4,0] (AA C n 176 [tI (gI y201 0),tI (cI p181 7 4)]) fun y202=>join (IE n ff p181 y202 k182) fun k204=>cnd (decide ((length (gL y202 0):Int)>0)=true) (Option.bind (gL y202 0)[0]? fun y205=>cnd (okI y205 0) (k204 ([.t (.bool (gI y205 0==cI p181 7 4))],rh p181 0 Cb)) none) (k204 ([.t (.bool false)],rh p181 0 Cb))) none) none)))))
theorem vC26_4 (n:Nat) (ff:Nat→Rec) (k182:KT) (p181:ST):DD C (FJ C (pcx C (AA C n)) n ff Ea 8) (pcx C (AA C n)) n 144 [AV.ptr 7 0,AV.ptr 7 4,.t (tI 1),.t (tI (vI p181 3)),AV.agg (tv [tI (aI p181 4 0),tI (aI p181 4 1),tI (aI p181 4 2),tI (aI p181 4 3),tI (aI p181 4 4),.bool (aB p181 4 5),.str (aS p181 4 6),.sl 2 (aL p181 4 7)])] (rh p181 0 JX) (fun rs h1=>cnd (A0 C.P (Ax C.P 144) rs=true) (Db (rh p181 0 JX) h1 fun hs=>k182 (rs,hs)) none)=H5 n ff k182 p181:=by kernel_rfl
theorem GY (n:Nat) (k182:KT) (p181:ST):Zh n (fI C n) k182 p181=H5 n (fI C n) k182 p181:=(FR C n Ea 8 _ 144 _ _ _).trans (vC26_4 n (fI C n) k182 p181)
noncomputable def UA (n:Nat) (ff:Nat→Rec) (k179:KT) (p178 p211:ST):RT:=k179 ([.t (tI (w64 (vI p178 0+1)))],rh p211 0 OF)
noncomputable def JR (n:Nat) (ff:Nat→Rec) (y177:List Tree) (p167:ST) (k175:KT) (p178:ST) (k179:KT):RT:=cnd (decide (vI p178 0<(length (gL y177 4):Int))=true) (cnd (8=8∧0≤vI p178 0) (Option.bind (gL y177 4)[toNat (vI p178 0)]? fun y180=>bk kG 0 y180 (join (UA n ff k179 p178) fun k212=>Zh n ff k212 ([AV.ptr 7 0,AV.ptr 7 4,.t (tI 1),.t (tI (cI p178 7 15)),AV.agg (tv (gt kG y180 0 []))],upd (rh p178 0 JX) [(2,.row true (AB p167 2) 15 (oEs p167 2)),(3,.row true (AB p167 3) 4 (oEs p167 3)),(4,.row true (AB p167 4) 4 (oEs p167 4)),(10,.box (tv (gt kG y180 0 [])))]))) none) (cnd ((!(cB p178 7 36))=true) (bd [1] (AA C n 147 (ct [0,0,5,2] p178 7 31 [])) fun y215=>cnd (gB y215 0=true) (k175 ([],upd (rh p178 0 Cc) [(7,.box (upd (rb p178 7 0 BJ) [(36,AV.t (Tree.bool true)),(37,.t (tI (cI p178 7 15)))]))])) (k175 ([],rh p178 0 Cc))) (k175 ([],rh p178 0 Cc)))
noncomputable def Qp (n:Nat) (ff:Nat→Rec) (p174:ST) (k173:KT) (p224:ST):RT:=cnd (vB p224 0=true) (cnd (AB p224 8=AB p174 8+1∧8≤8) (Option.bind (oEs p224 8)[0]? fun y226=>k173 ([.rptr 8 (AB p174 8+1) 0 0,.t (.bool false)],upd (rh p224 0 Cc) [(8,.row false (AB p174 8+1) 8 (List.set (oEs p224 8) 0 (zt kG []++drop 8 y226)))])) none) (bd [0,13,0,0,0,0,0,0,0,0,0,1,2,5,0] (AA C n 158 (ct [0,13,0,0] p224 7 0 [])) fun y227=>cnd (AB p224 8=AB p174 8+1∧8≤8) (Option.bind (oEs p224 8)[0]? fun y228=>k173 ([.rptr 8 (AB p174 8+1) 0 0,.t (.bool true)],upd (rh p224 0 Cc) [(7,.box (upd (rb p224 7 0 BJ) [(0,.t (tI (gI y227 0))),(1,.t (.sl 10 (gL y227 1))),(2,.t (tI (gI y227 2))),(3,.t (tI (gI y227 3)))])),(8,.row false (AB p174 8+1) 8 (List.set (oEs p224 8) 0 (gt kG y227 6 []++drop 8 y228)))])) none)
noncomputable def N9 (n:Nat) (ff:Nat→Rec) (p172:ST) (k173:KT) (p174:ST):RT:=cnd (AB p174 8=CQ p172 0) (Option.bind (oEs p174 8)[0]? fun y222=>bk kG 0 y222 (cnd (AB p174 8+1=AB p174 8+1∧8≤8) (bd [0,1] (AA C n 122 (ct [0,13,0,0] p174 7 0 [])) fun y223=>join (Qp n ff p174 k173) fun k225=>cnd ((!(gB y223 1))=true) (k225 ([.t (.bool true)],upd (rh p174 0 LY) [(8,.row false (AB p174 8+1) 8 [[tI (gI y222 0),tI (gI y222 1),tI (gI y222 2),tI (gI y222 3),tI (gI y222 4),.bool (gB y222 5),.str (gS y222 6),.sl 2 (gL y222 7)]]),(9,.box (tv (zt kG [])))])) (k225 ([.t (.bool ((gI y223 0) != cI p174 7 15))],upd (rh p174 0 LY) [(8,.row false (AB p174 8+1) 8 [[tI (gI y222 0),tI (gI y222 1),tI (gI y222 2),tI (gI y222 3),tI (gI y222 4),.bool (gB y222 5),.str (gS y222 6),.sl 2 (gL y222 7)]]),(9,.box (tv (zt kG [])))]))) none)) none
noncomputable def Gy (n:Nat) (ff:Nat→Rec) (p167:ST) (k168:KT) (p172:ST) (k173:KT):RT:=cnd (vB p172 1=true) (join (N9 n ff p172 k173) fun k175=>cnd (AB p172 8=CQ p172 0) (Option.bind (oEs p172 8)[0]? fun y176=>bk kG 0 y176 (bd [0,0,5,2,11,0] (AA C n 146 (ct [0,0,5,2] p172 7 31 (gt kG y176 0 []))) fun y177=>cnd (((gI y177 5) != 0)=true) (k175 ([],rh p172 0 Cc)) (AJ (JR n ff y177 p167 k175) n ([.t (tI 0)],upd (rh p172 0 OF) [(7,.box (upd (rb p172 7 0 BJ) [(31,.t (tI (gI y177 0))),(32,.t (tI (gI y177 1))),(33,.t (.sl 2 (gL y177 2))),(34,.t (.str (gS y177 3)))])),(9,.box (tv (gt [0,0,5,2] y177 0 [])))])))) none) (k168 ([],rh p172 0 Be))
noncomputable def Qo (n:Nat) (ff:Nat→Rec) (p167:ST) (k168:KT) (p170:ST):RT:=cnd (vB p170 0=true) (AJ (Gy n ff p167 k168) n ([.rptr 8 0 0 0,.t (.bool false)],upd (rh p170 0 Cc) [(8,.row false 0 8 [[tI 0,tI 0,tI 0,tI 0,tI 0,.bool false,.str B0,.sl 2 []]])])) (bd [0,13,0,0,0,0,0,0,0,0,0,1,2,5,0] (AA C n 158 (ct [0,13,0,0] p170 7 0 [])) fun y229=>AJ (Gy n ff p167 k168) n ([.rptr 8 0 0 0,.t (.bool true)],upd (rh p170 0 Cc) [(7,.box (upd (rb p170 7 0 BJ) [(0,.t (tI (gI y229 0))),(1,.t (.sl 10 (gL y229 1))),(2,AV.t (tI (gI y229 2))),(3,.t (tI (gI y229 3)))])),(8,.row false 0 8 [[tI (gI y229 6),tI (gI y229 7),tI (gI y229 8),tI (gI y229 9),tI (gI y229 10),.bool (gB y229 11),.str (gS y229 12),.sl 2 (gL y229 13)]])]))
noncomputable def Zg (n:Nat) (ff:Nat→Rec) (k168:KT) (p167:ST):RT:=ff 10 (List Tree) (.fn 125 [AV.ptr 7 0]) (rh p167 0 CA) fun rs h1=>cnd (A0 C.P (Ax C.P 125) rs=true) (Db (rh p167 0 CA) h1 fun hs=>k168 (rs,hs)) none
noncomputable def Sk (n:Nat) (ff:Nat→Rec) (k168:KT) (p167:ST):RT:=bd [0,1] (AA C n 122 (ct [0,13,0,0] p167 7 0 [])) fun y169=>join (Qo n ff p167 k168) fun k171=>cnd ((!(gB y169 1))=true) (k171 ([.t (.bool true)],upd (rh p167 0 PZ) [(8,.box (tv (zt kG [])))])) (k171 ([.t (.bool ((gI y169 0) != cI p167 7 15))],upd (rh p167 0 PZ) [(8,.box (tv (zt kG [])))]))
theorem vC26_5 (n:Nat) (ff:Nat→Rec) (k168:KT) (p167:ST):DD C (FJ C (pcx C (AA C n)) n ff Ea 9) (pcx C (AA C n)) n 125 [AV.ptr 7 0] (rh p167 0 CA) (fun rs h1=>cnd (A0 C.P (Ax C.P 125) rs=true) (Db (rh p167 0 CA) h1 fun hs=>k168 (rs,hs)) none)=Sk n ff k168 p167:=by kernel_rfl
theorem Sy (n:Nat) (k168:KT) (p167:ST):Zg n (fI C n) k168 p167=Sk n (fI C n) k168 p167:=(FR C n Ea 9 _ 125 _ _ _).trans (vC26_5 n (fI C n) k168 p167)
noncomputable def Dv (n:Nat) (ff:Nat→Rec) (p267:ST) (k268:KT) (y275:List Tree) (p280:ST):RT:=cnd (vB p280 0=true) (AQ (.box [AV.yld 40,.t (tI (cI p267 7 0)),.t (.sl 10 (cL p267 7 1)),.t (tI (cI p267 7 2)),.t (tI (cI p267 7 3))]) (.box [AV.yld 40,.t (tI (cI p280 7 0)),.t (.sl 10 (cL p280 7 1)),.t (tI (cI p280 7 2)),.t (tI (cI p280 7 3))]) (AQ (.box [AV.yld 40,.t (tI (cI p267 7 0))]) (.box [AV.yld 40,.t (tI (cI p280 7 0))]) (AQ (.row false (AB p267 5) 9 (oEs p267 5)) (.row false (AB p280 5) 9 (oEs p280 5)) (AQ (.row false (AB p267 6) 9 (oEs p267 6)) (.row false (AB p280 6) 9 (oEs p280 6)) (AQ (.row false (AB p267 1) 9 (oEs p267 1)) (.row false (AB p280 1) 9 (oEs p280 1)) (bd [0,13,0,0,0] (AA C n 156 (ct [0,13,0,0] p267 7 0 [tI (vI p267 3),tI (aI p267 4 0),tI (aI p267 4 1),tI (aI p267 4 2),tI (aI p267 4 3),tI (aI p267 4 4),.bool (aB p267 4 5),.str (aS p267 4 6),.sl 2 (aL p267 4 7),.sl 1 [[tI (cI p267 7 0)]]])) fun y282=>cnd (((gI y282 4) != 0)=true) (k268 ([],rh p280 0 Be)) (cnd (AB p280 5=AI p280 7 13∧(9=9∨9=0)∧AL p280 7 13+AH p280 7 13≤length (oEs p280 5)∧AH p280 7 13+1≤1073741824) (k268 ([],upd (rh p280 0 Be) [(5,.row false (AI p280 7 13+1) 9 (take (AH p280 7 13) (drop (AL p280 7 13) (oEs p280 5))++[[tI (vI p267 3),tI (aI p267 4 0),tI (aI p267 4 1),tI (aI p267 4 2),tI (aI p267 4 3),tI (aI p267 4 4),Tree.bool (aB p267 4 5),.str (aS p267 4 6),.sl 2 (aL p267 4 7)]])),(7,.box (upd (rb p280 7 0 BJ) [(0,.t (tI (gI y282 0))),(1,.t (.sl 10 (gL y282 1))),(2,.t (tI (gI y282 2))),(3,.t (tI (gI y282 3))),(11,.t (tI (w64 (cI p280 7 11+1)))),(13,.sref 5 (AI p280 7 13+1) 0 (AH p280 7 13+1))]))])) none))))))) (AQ (.box [AV.yld 40,.t (tI (cI p267 7 0)),.t (.sl 10 (cL p267 7 1)),.t (tI (cI p267 7 2)),.t (tI (cI p267 7 3))]) (.box [AV.yld 40,.t (tI (cI p280 7 0)),.t (.sl 10 (cL p280 7 1)),.t (tI (cI p280 7 2)),.t (tI (cI p280 7 3))]) (AQ (.box [AV.yld 40,.t (tI (cI p267 7 0))]) (.box [AV.yld 40,.t (tI (cI p280 7 0))]) (AQ (.row false (AB p267 5) 9 (oEs p267 5)) (.row false (AB p280 5) 9 (oEs p280 5)) (AQ (.row false (AB p267 6) 9 (oEs p267 6)) (.row false (AB p280 6) 9 (oEs p280 6)) (AQ (.row false (AB p267 1) 9 (oEs p267 1)) (.row false (AB p280 1) 9 (oEs p280 1)) (bd [0,13,0,0,0] (AA C n 156 (ct [0,13,0,0] p267 7 0 [tI (vI p267 3),tI (aI p267 4 0),tI (aI p267 4 1),tI (aI p267 4 2),tI (aI p267 4 3),tI (aI p267 4 4),.bool (aB p267 4 5),.str (aS p267 4 6),.sl 2 (aL p267 4 7),.sl 1 (gL y275 0)])) fun y283=>cnd (((gI y283 4) != 0)=true) (k268 ([],upd (rh p280 0 Be) [(7,.box (upd (rb p280 7 0 BJ) [(12,.t (tI (w64 (cI p280 7 12+1))))]))])) (cnd (AB p280 5=AI p280 7 13∧(9=9∨9=0)∧AL p280 7 13+AH p280 7 13≤length (oEs p280 5)∧AH p280 7 13+1≤1073741824) (k268 ([],upd (rh p280 0 Be) [(5,.row false (AI p280 7 13+1) 9 (take (AH p280 7 13) (drop (AL p280 7 13) (oEs p280 5))++[[tI (vI p267 3),tI (aI p267 4 0),tI (aI p267 4 1),tI (aI p267 4 2),tI (aI p267 4 3),tI (aI p267 4 4),.bool (aB p267 4 5),.str (aS p267 4 6),.sl 2 (aL p267 4 7)]])),(7,.box (upd (rb p280 7 0 BJ) [(0,.t (tI (gI y283 0))),(1,.t (.sl 10 (gL y283 1))),(2,.t (tI (gI y283 2))),(3,.t (tI (gI y283 3))),(11,.t (tI (w64 (cI p280 7 11+1)))),(12,.t (tI (w64 (cI p280 7 12+1)))),(13,.sref 5 (AI p280 7 13+1) 0 (AH p280 7 13+1))]))])) none)))))))
noncomputable def ID (n:Nat) (ff:Nat→Rec) (p267:ST) (y275:List Tree) (k268:KT) (p276:ST):RT:=cnd (vB p276 0=true) (AQ (.box [AV.yld 40,.t (tI (cI p267 7 0)),.t (.sl 10 (cL p267 7 1)),.t (tI (cI p267 7 2)),.t (tI (cI p267 7 3))]) (.box [AV.yld 40,.t (tI (cI p276 7 0)),.t (.sl 10 (cL p276 7 1)),.t (tI (cI p276 7 2)),.t (tI (cI p276 7 3))]) (AQ (.box [AV.yld 40,.t (tI (cI p267 7 0))]) (.box [AV.yld 40,.t (tI (cI p276 7 0))]) (AQ (.row false (AB p267 5) 9 (oEs p267 5)) (.row false (AB p276 5) 9 (oEs p276 5)) (AQ (.row false (AB p267 6) 9 (oEs p267 6)) (.row false (AB p276 6) 9 (oEs p276 6)) (AQ (.row false (AB p267 1) 9 (oEs p267 1)) (.row false (AB p276 1) 9 (oEs p276 1)) (bd [0,13,0,0,0] (AA C n 156 (ct [0,13,0,0] p267 7 0 [tI (vI p267 3),tI (aI p267 4 0),tI (aI p267 4 1),tI (aI p267 4 2),tI (aI p267 4 3),tI (aI p267 4 4),.bool (aB p267 4 5),.str (aS p267 4 6),.sl 2 (aL p267 4 7),.sl 1 (gL y275 0)])) fun y279=>cnd (((gI y279 4) != 0)=true) (k268 ([],rh p276 0 Be)) (cnd (AB p276 5=AI p276 7 13∧(9=9∨9=0)∧AL p276 7 13+AH p276 7 13≤length (oEs p276 5)∧AH p276 7 13+1≤1073741824) (k268 ([],upd (rh p276 0 Be) [(5,.row false (AI p276 7 13+1) 9 (take (AH p276 7 13) (drop (AL p276 7 13) (oEs p276 5))++[[tI (vI p267 3),tI (aI p267 4 0),tI (aI p267 4 1),tI (aI p267 4 2),tI (aI p267 4 3),tI (aI p267 4 4),.bool (aB p267 4 5),.str (aS p267 4 6),.sl 2 (aL p267 4 7)]])),(7,.box (upd (rb p276 7 0 BJ) [(0,.t (tI (gI y279 0))),(1,.t (.sl 10 (gL y279 1))),(2,.t (tI (gI y279 2))),(3,.t (tI (gI y279 3))),(11,.t (tI (w64 (cI p276 7 11+1)))),(13,.sref 5 (AI p276 7 13+1) 0 (AH p276 7 13+1))]))])) none))))))) (join (Dv n ff p267 k268 y275) fun k281=>cnd (decide (cI p276 7 9≥(0:Int))=true) (k281 ([.t (.bool (decide (cI p276 7 12≥cI p276 7 9)))],rh p276 0 LW)) (k281 ([.t (.bool false)],rh p276 0 LW)))
noncomputable def IB (n:Nat) (ff:Nat→Rec) (p267:ST) (y288:List Tree) (k268:KT) (p289:ST):RT:=cnd (vB p289 0=true) (AQ (.box [AV.yld 40,.t (tI (cI p267 7 0)),.t (.sl 10 (cL p267 7 1)),.t (tI (cI p267 7 2)),.t (tI (cI p267 7 3))]) (.box [AV.yld 40,.t (tI (cI p289 7 0)),.t (.sl 10 (cL p289 7 1)),.t (tI (cI p289 7 2)),.t (tI (cI p289 7 3))]) (AQ (.box [AV.yld 40,.t (tI (cI p267 7 0))]) (.box [AV.yld 40,.t (tI (cI p289 7 0))]) (AQ (.row false (AB p267 5) 9 (oEs p267 5)) (.row false (AB p289 5) 9 (oEs p289 5)) (AQ (.row false (AB p267 6) 9 (oEs p267 6)) (.row false (AB p289 6) 9 (oEs p289 6)) (AQ (.row false (AB p267 1) 9 (oEs p267 1)) (.row false (AB p289 1) 9 (oEs p289 1)) (bd [0,13,0,0,0] (AA C n 156 (ct [0,13,0,0] p267 7 0 [tI (vI p267 3),tI (aI p267 4 0),tI (aI p267 4 1),tI (aI p267 4 2),tI (aI p267 4 3),tI (aI p267 4 4),.bool (aB p267 4 5),.str (aS p267 4 6),.sl 2 (aL p267 4 7),.sl 1 (gL y288 0)])) fun y292=>cnd (((gI y292 4) != 0)=true) (k268 ([],rh p289 0 Be)) (cnd (AB p289 5=AI p289 7 13∧(9=9∨9=0)∧AL p289 7 13+AH p289 7 13≤length (oEs p289 5)∧AH p289 7 13+1≤1073741824) (k268 ([],upd (rh p289 0 Be) [(5,.row false (AI p289 7 13+1) 9 (take (AH p289 7 13) (drop (AL p289 7 13) (oEs p289 5))++[[tI (vI p267 3),tI (aI p267 4 0),tI (aI p267 4 1),tI (aI p267 4 2),tI (aI p267 4 3),tI (aI p267 4 4),.bool (aB p267 4 5),.str (aS p267 4 6),.sl 2 (aL p267 4 7)]])),(7,.box (upd (rb p289 7 0 BJ) [(0,.t (tI (gI y292 0))),(1,.t (.sl 10 (gL y292 1))),(2,.t (tI (gI y292 2))),(3,.t (tI (gI y292 3))),(11,.t (tI (w64 (cI p289 7 11+1)))),(13,.sref 5 (AI p289 7 13+1) 0 (AH p289 7 13+1))]))])) none))))))) (join (Dv n ff p267 k268 y288) fun k294=>cnd (decide (cI p289 7 9≥(0:Int))=true) (k294 ([.t (.bool (decide (cI p289 7 12≥cI p289 7 9)))],rh p289 0 Be)) (k294 ([.t (.bool false)],rh p289 0 Be)))
noncomputable def Zf (n:Nat) (ff:Nat→Rec) (k268:KT) (p267:ST):RT:=ff 9 (List Tree) (.fn 144 [AV.ptr 7 0,AV.ptr 7 0,.t (tI 0),.t (tI (vI p267 3)),AV.agg (tv [tI (aI p267 4 0),tI (aI p267 4 1),tI (aI p267 4 2),tI (aI p267 4 3),tI (aI p267 4 4),.bool (aB p267 4 5),.str (aS p267 4 6),.sl 2 (aL p267 4 7)])]) (rh p267 0 CA) fun rs h1=>cnd (A0 C.P (Ax C.P 144) rs=true) (Db (rh p267 0 CA) h1 fun hs=>k268 (rs,hs)) none
noncomputable def H4 (n:Nat) (ff:Nat→Rec) (k268:KT) (p267:ST):RT:=cnd (decide (cI p267 7 11≥(10000:Int))=true) (k268 ([],rh p267 0 Be)) (both (bd [1] (AA C n 175 [.sl 2 (cL p267 7 10),tI (vI p267 3)]) fun y271=>cnd (gB y271 0=true) (AQ (.box [AV.yld 40,.t (tI (cI p267 7 0)),.t (.sl 10 (cL p267 7 1)),.t (tI (cI p267 7 2)),.t (tI (cI p267 7 3))]) (.box [AV.yld 40,.t (tI (cI p267 7 0)),.t (.sl 10 (cL p267 7 1)),.t (tI (cI p267 7 2)),.t (tI (cI p267 7 3))]) (AQ (.box [AV.yld 40,.t (tI (cI p267 7 0))]) (.box [AV.yld 40,.t (tI (cI p267 7 0))]) (AQ (.row false (AB p267 5) 9 (oEs p267 5)) (.row false (AB p267 5) 9 (oEs p267 5)) (AQ (.row false (AB p267 6) 9 (oEs p267 6)) (.row false (AB p267 6) 9 (oEs p267 6)) (AQ (.row false (AB p267 1) 9 (oEs p267 1)) (.row false (AB p267 1) 9 (oEs p267 1)) (bd [0,13,0,0,0] (AA C n 156 (ct [0,13,0,0] p267 7 0 [tI (vI p267 3),tI (aI p267 4 0),tI (aI p267 4 1),tI (aI p267 4 2),tI (aI p267 4 3),tI (aI p267 4 4),.bool (aB p267 4 5),.str (aS p267 4 6),.sl 2 (aL p267 4 7),.sl 1 []])) fun y272=>cnd (((gI y272 4) != 0)=true) (k268 ([],rh p267 0 Be)) (cnd (AB p267 5=AI p267 7 13∧(9=9∨9=0)∧AL p267 7 13+AH p267 7 13≤length (oEs p267 5)∧AH p267 7 13+1≤1073741824) (k268 ([],upd (rh p267 0 Be) [(5,.row false (AI p267 7 13+1) 9 (take (AH p267 7 13) (drop (AL p267 7 13) (oEs p267 5))++[[tI (vI p267 3),tI (aI p267 4 0),tI (aI p267 4 1),tI (aI p267 4 2),tI (aI p267 4 3),tI (aI p267 4 4),.bool (aB p267 4 5),.str (aS p267 4 6),.sl 2 (aL p267 4 7)]])),(7,.box (upd (rb p267 7 0 BJ) [(0,.t (tI (gI y272 0))),(1,.t (.sl 10 (gL y272 1))),(2,.t (tI (gI y272 2))),(3,.t (tI (gI y272 3))),(11,.t (tI (w64 (cI p267 7 11+1)))),(13,.sref 5 (AI p267 7 13+1) 0 (AH p267 7 13+1))]))])) none))))))) (cnd (((length (cL p267 7 8):Int)==0)=true) (AQ (.box [AV.yld 40,.t (tI (cI p267 7 0)),.t (.sl 10 (cL p267 7 1)),.t (tI (cI p267 7 2)),.t (tI (cI p267 7 3))]) (.box [AV.yld 40,.t (tI (cI p267 7 0)),.t (.sl 10 (cL p267 7 1)),.t (tI (cI p267 7 2)),.t (tI (cI p267 7 3))]) (AQ (.box [AV.yld 40,.t (tI (cI p267 7 0))]) (.box [AV.yld 40,.t (tI (cI p267 7 0))]) (AQ (.row false (AB p267 5) 9 (oEs p267 5)) (.row false (AB p267 5) 9 (oEs p267 5)) (AQ (.row false (AB p267 6) 9 (oEs p267 6)) (.row false (AB p267 6) 9 (oEs p267 6)) (AQ (.row false (AB p267 1) 9 (oEs p267 1)) (.row false (AB p267 1) 9 (oEs p267 1)) (bd [0,13,0,0,0] (AA C n 156 (ct [0,13,0,0] p267 7 0 [tI (vI p267 3),tI (aI p267 4 0),tI (aI p267 4 1),tI (aI p267 4 2),tI (aI p267 4 3),tI (aI p267 4 4),.bool (aB p267 4 5),.str (aS p267 4 6),.sl 2 (aL p267 4 7),.sl 1 [[tI (cI p267 7 0)]]])) fun y273=>cnd (((gI y273 4) != 0)=true) (k268 ([],rh p267 0 Be)) (cnd (AB p267 5=AI p267 7 13∧(9=9∨9=0)∧AL p267 7 13+AH p267 7 13≤length (oEs p267 5)∧AH p267 7 13+1≤1073741824) (k268 ([],upd (rh p267 0 Be) [(5,.row false (AI p267 7 13+1) 9 (take (AH p267 7 13) (drop (AL p267 7 13) (oEs p267 5))++[[tI (vI p267 3),tI (aI p267 4 0),tI (aI p267 4 1),tI (aI p267 4 2),tI (aI p267 4 3),tI (aI p267 4 4),.bool (aB p267 4 5),.str (aS p267 4 6),.sl 2 (aL p267 4 7)]])),(7,.box (upd (rb p267 7 0 BJ) [(0,.t (tI (gI y273 0))),(1,.t (.sl 10 (gL y273 1))),(2,.t (tI (gI y273 2))),(3,.t (tI (gI y273 3))),(11,.t (tI (w64 (cI p267 7 11+1)))),(13,.sref 5 (AI p267 7 13+1) 0 (AH p267 7 13+1))]))])) none))))))) (cnd ((length (cL p267 7 8):Int)=0) none (cnd (1=1∧0≤tmod (cI p267 7 11) (length (cL p267 7 8):Int)) (Option.bind (cL p267 7 8)[toNat (tmod (cI p267 7 11) (length (cL p267 7 8):Int))]? fun y274=>cnd (okI y274 0) (bd [4,0] (AA C n 176 [tI (gI y274 0),tI (cI p267 7 0)]) fun y275=>join (ID n ff p267 y275 k268) fun k277=>cnd (decide ((length (gL y275 0):Int)>0)=true) (Option.bind (gL y275 0)[0]? fun y278=>cnd (okI y278 0) (k277 ([.t (.bool (gI y278 0==cI p267 7 0))],upd (rh p267 0 LW) [(8,.box (tv (zt [0,13,0,0] [])))])) none) (k277 ([.t (.bool false)],upd (rh p267 0 LW) [(8,.box (tv (zt [0,13,0,0] [])))]))) none) none)))) (bd [1] (AA C n 175 [.sl 2 (cL p267 7 10),tI (vI p267 3)]) fun y284=>cnd (gB y284 0=true) (AQ (.box [AV.yld 40,.t (tI (cI p267 7 0)),.t (.sl 10 (cL p267 7 1)),.t (tI (cI p267 7 2)),.t (tI (cI p267 7 3))]) (.box [AV.yld 40,.t (tI (cI p267 7 0)),.t (.sl 10 (cL p267 7 1)),.t (tI (cI p267 7 2)),.t (tI (cI p267 7 3))]) (AQ (.box [AV.yld 40,.t (tI (cI p267 7 0))]) (.box [AV.yld 40,.t (tI (cI p267 7 0))]) (AQ (.row false (AB p267 5) 9 (oEs p267 5)) (.row false (AB p267 5) 9 (oEs p267 5)) (AQ (.row false (AB p267 6) 9 (oEs p267 6)) (.row false (AB p267 6) 9 (oEs p267 6)) (AQ (.row false (AB p267 1) 9 (oEs p267 1)) (.row false (AB p267 1) 9 (oEs p267 1)) (bd [0,13,0,0,0] (AA C n 156 (ct [0,13,0,0] p267 7 0 [tI (vI p267 3),tI (aI p267 4 0),tI (aI p267 4 1),tI (aI p267 4 2),tI (aI p267 4 3),tI (aI p267 4 4),.bool (aB p267 4 5),.str (aS p267 4 6),.sl 2 (aL p267 4 7),.sl 1 []])) fun y285=>cnd (((gI y285 4) != 0)=true) (k268 ([],rh p267 0 Be)) (cnd (AB p267 5=AI p267 7 13∧(9=9∨9=0)∧AL p267 7 13+AH p267 7 13≤length (oEs p267 5)∧AH p267 7 13+1≤1073741824) (k268 ([],upd (rh p267 0 Be) [(5,.row false (AI p267 7 13+1) 9 (take (AH p267 7 13) (drop (AL p267 7 13) (oEs p267 5))++[[tI (vI p267 3),tI (aI p267 4 0),tI (aI p267 4 1),tI (aI p267 4 2),tI (aI p267 4 3),tI (aI p267 4 4),.bool (aB p267 4 5),.str (aS p267 4 6),.sl 2 (aL p267 4 7)]])),(7,.box (upd (rb p267 7 0 BJ) [(0,.t (tI (gI y285 0))),(1,.t (.sl 10 (gL y285 1))),(2,.t (tI (gI y285 2))),(3,.t (tI (gI y285 3))),(11,.t (tI (w64 (cI p267 7 11+1)))),(13,.sref 5 (AI p267 7 13+1) 0 (AH p267 7 13+1))]))])) none))))))) (cnd (((length (cL p267 7 8):Int)==0)=true) (AQ (.box [AV.yld 40,.t (tI (cI p267 7 0)),.t (.sl 10 (cL p267 7 1)),.t (tI (cI p267 7 2)),.t (tI (cI p267 7 3))]) (.box [AV.yld 40,.t (tI (cI p267 7 0)),.t (.sl 10 (cL p267 7 1)),.t (tI (cI p267 7 2)),.t (tI (cI p267 7 3))]) (AQ (.box [AV.yld 40,.t (tI (cI p267 7 0))]) (.box [AV.yld 40,.t (tI (cI p267 7 0))]) (AQ (.row false (AB p267 5) 9 (oEs p267 5)) (.row false (AB p267 5) 9 (oEs p267 5)) (AQ (.row false (AB p267 6) 9 (oEs p267 6)) (.row false (AB p267 6) 9 (oEs p267 6)) (AQ (.row false (AB p267 1) 9 (oEs p267 1)) (.row false (AB p267 1) 9 (oEs p267 1)) (bd [0,13,0,0,0] (AA C n 156 (ct [0,13,0,0] p267 7 0 [tI (vI p267 3),tI (aI p267 4 0),tI (aI p267 4 1),tI (aI p267 4 2),tI (aI p267 4 3),tI (aI p267 4 4),.bool (aB p267 4 5),.str (aS p267 4 6),.sl 2 (aL p267 4 7),.sl 1 [[tI (cI p267 7 0)]]])) fun y286=>cnd (((gI y286 4) != 0)=true) (k268 ([],rh p267 0 Be)) (cnd (AB p267 5=AI p267 7 13∧(9=9∨9=0)∧AL p267 7 13+AH p267 7 13≤length (oEs p267 5)∧AH p267 7 13+1≤1073741824) (k268 ([],upd (rh p267 0 Be) [(5,.row false (AI p267 7 13+1) 9 (take (AH p267 7 13) (drop (AL p267 7 13) (oEs p267 5))++[[tI (vI p267 3),tI (aI p267 4 0),tI (aI p267 4 1),tI (aI p267 4 2),tI (aI p267 4 3),tI (aI p267 4 4),.bool (aB p267 4 5),.str (aS p267 4 6),.sl 2 (aL p267 4 7)]])),(7,.box (upd (rb p267 7 0 BJ) [(0,.t (tI (gI y286 0))),(1,.t (.sl 10 (gL y286 1))),(2,.t (tI (gI y286 2))),(3,.t (tI (gI y286 3))),(11,.t (tI (w64 (cI p267 7 11+1)))),(13,.sref 5 (AI p267 7 13+1) 0 (AH p267 7 13+1))]))])) none))))))) (cnd ((length (cL p267 7 8):Int)=0) none (cnd (1=1∧0≤tmod (cI p267 7 11) (length (cL p267 7 8):Int)) (Option.bind (cL p267 7 8)[toNat (tmod (cI p267 7 11) (length (cL p267 7 8):Int))]? fun y287=>cnd (okI y287 0) (bd [4,0] (AA C n 176 [tI (gI y287 0),tI (cI p267 7 0)]) fun y288=>join (IB n ff p267 y288 k268) fun k290=>cnd (decide ((length (gL y288 0):Int)>0)=true) (Option.bind (gL y288 0)[0]? fun y291=>cnd (okI y291 0) (k290 ([.t (.bool (gI y291 0==cI p267 7 0))],rh p267 0 Be)) none) (k290 ([.t (.bool false)],rh p267 0 Be))) none) none)))))
theorem vC26_6 (n:Nat) (ff:Nat→Rec) (k268:KT) (p267:ST):DD C (FJ C (pcx C (AA C n)) n ff Ea 8) (pcx C (AA C n)) n 144 [AV.ptr 7 0,AV.ptr 7 0,.t (tI 0),.t (tI (vI p267 3)),AV.agg (tv [tI (aI p267 4 0),tI (aI p267 4 1),tI (aI p267 4 2),tI (aI p267 4 3),tI (aI p267 4 4),.bool (aB p267 4 5),.str (aS p267 4 6),.sl 2 (aL p267 4 7)])] (rh p267 0 CA) (fun rs h1=>cnd (A0 C.P (Ax C.P 144) rs=true) (Db (rh p267 0 CA) h1 fun hs=>k268 (rs,hs)) none)=H4 n ff k268 p267:=by kernel_rfl
theorem GX (n:Nat) (k268:KT) (p267:ST):Zf n (fI C n) k268 p267=H4 n (fI C n) k268 p267:=(FR C n Ea 8 _ 144 _ _ _).trans (vC26_6 n (fI C n) k268 p267)
noncomputable def ZP (n:Nat) (ff:Nat→Rec) (k262:KT) (p297:ST):RT:=cnd (AB p297 1=AI p297 7 35∧(9=9∨9=0)) (cnd ((0:Int)≤1∧1≤(AH p297 7 35:Int)) (k262 ([],upd (rh p297 0 Be) [(7,.box (upd (rb p297 7 0 BJ) [(35,.sref 1 (AI p297 7 35) (AL p297 7 35+1) (AH p297 7 35-1))]))])) none) none
noncomputable def Qn (n:Nat) (ff:Nat→Rec) (k262:KT) (p259:ST) (k260:KT) (p263:ST):RT:=cnd (vB p263 0=true) (cnd (AB p263 1=AI p263 7 35∧9=9∧(0:Int)≤0∧0<(AH p263 7 35:Int)) (cnd (AB p263 1=AI p263 7 35) (cnd (AB p263 1=AI p263 7 35) (Option.bind (oEs p263 1)[AL p263 7 35]? fun y266=>bk kG 1 y266 (join (ZP n ff k262) fun k298=>Zf n ff k298 ([AV.ptr 7 0,AV.ptr 7 0,.t (tI 0),.t (tI (cI p263 7 15)),AV.agg (tv (gt kG y266 1 []))],upd (rh p263 0 CA) [(2,.row true (AB p259 2) 15 (oEs p259 2)),(3,.row true (AB p259 3) 4 (oEs p259 3)),(4,.row true (AB p259 4) 4 (oEs p259 4))]))) none) none) none) (k260 ([],rh p263 0 Be))
noncomputable def N3 (n:Nat) (ff:Nat→Rec) (p259:ST) (k260:KT) (p261:ST) (k262:KT):RT:=join (Qn n ff k262 p259 k260) fun k264=>cnd (AB p261 1=AI p261 7 35) (cnd (decide ((AH p261 7 35:Int)>0)=true) (cnd (AB p261 1=AI p261 7 35∧9=9∧(0:Int)≤0∧0<(AH p261 7 35:Int)) (cnd (AB p261 1=AI p261 7 35) (cnd (AB p261 1=AI p261 7 35) (Option.bind (oEs p261 1)[AL p261 7 35]? fun y265=>cnd (okI y265 0) (k264 ([.t (.bool (gI y265 0==cI p261 7 15))],rh p261 0 Be)) none) none) none) none) (k264 ([.t (.bool false)],rh p261 0 Be))) none
noncomputable def Ze (n:Nat) (ff:Nat→Rec) (k260:KT) (p259:ST):RT:=ff 10 (List Tree) (.fn 124 [AV.ptr 7 0]) (rh p259 0 CA) fun rs h1=>cnd (A0 C.P (Ax C.P 124) rs=true) (Db (rh p259 0 CA) h1 fun hs=>k260 (rs,hs)) none
noncomputable def Y6 (n:Nat) (ff:Nat→Rec) (k260:KT) (p259:ST):RT:=AJ (N3 n ff p259 k260) n ([],rh p259 0 Be)
theorem vC26_7 (n:Nat) (ff:Nat→Rec) (k260:KT) (p259:ST):DD C (FJ C (pcx C (AA C n)) n ff Ea 9) (pcx C (AA C n)) n 124 [AV.ptr 7 0] (rh p259 0 CA) (fun rs h1=>cnd (A0 C.P (Ax C.P 124) rs=true) (Db (rh p259 0 CA) h1 fun hs=>k260 (rs,hs)) none)=Y6 n ff k260 p259:=by kernel_rfl
theorem tC26_7 (n:Nat) (k260:KT) (p259:ST):Ze n (fI C n) k260 p259=Y6 n (fI C n) k260 p259:=(FR C n Ea 9 _ 124 _ _ _).trans (vC26_7 n (fI C n) k260 p259)
noncomputable def ZO (n:Nat) (ff:Nat→Rec) (k85:KT) (p301:ST):RT:=k85 (tv [tI (vI p301 0),.bool (vB p301 1)],rh p301 0 Be)
noncomputable def JQ (n:Nat) (ff:Nat→Rec) (p17:ST) (k85:KT) (p86:ST) (k87:KT):RT:=cnd (decide (vI p86 0<4)=true) (cnd (0≤vI p86 0∧vI p86 0<4) (cnd (vI p86 0=(3:Int)) (join (IG n ff k87 p86) fun k100=>Zj n ff k100 ([AV.ptr 7 0],upd (rh p86 0 CA) [(2,.row true (AB p17 2) 15 (oEs p17 2)),(3,.row true (AB p17 3) 4 (oEs p17 3)),(4,.row true (AB p17 4) 4 (oEs p17 4))])) (cnd (vI p86 0=(2:Int)) (join (IG n ff k87 p86) fun k166=>Zi n ff k166 ([AV.ptr 7 0],upd (rh p86 0 CA) [(2,.row true (AB p17 2) 15 (oEs p17 2)),(3,.row true (AB p17 3) 4 (oEs p17 3)),(4,.row true (AB p17 4) 4 (oEs p17 4))])) (cnd (vI p86 0=(1:Int)) (join (IG n ff k87 p86) fun k258=>Zg n ff k258 ([AV.ptr 7 0],upd (rh p86 0 CA) [(2,.row true (AB p17 2) 15 (oEs p17 2)),(3,.row true (AB p17 3) 4 (oEs p17 3)),(4,.row true (AB p17 4) 4 (oEs p17 4))])) (cnd (vI p86 0=(0:Int)) (join (IG n ff k87 p86) fun k300=>Ze n ff k300 ([AV.ptr 7 0],upd (rh p86 0 CA) [(2,.row true (AB p17 2) 15 (oEs p17 2)),(3,.row true (AB p17 3) 4 (oEs p17 3)),(4,.row true (AB p17 4) 4 (oEs p17 4))])) none)))) none) (join (ZO n ff k85) fun k302=>Vx n ff k302 ([AV.ptr 7 0],upd (rh p86 0 CA) [(2,.row true (AB p17 2) 15 (oEs p17 2)),(3,.row true (AB p17 3) 4 (oEs p17 3)),(4,.row true (AB p17 4) 4 (oEs p17 4))]))
noncomputable def N2 (n:Nat) (ff:Nat→Rec) (p17:ST) (k18:KT) (p84:ST) (k85:KT):RT:=cnd (vB p84 1=true) (AJ (JQ n ff p17 k85) n ([.t (tI 0)],upd (rh p84 0 Be) [(7,.box (upd (rb p84 7 0 BJ) [(15,.t (tI (vI p84 0)))]))])) (k18 ([],rh p84 0 Be))
noncomputable def ZN (n:Nat) (ff:Nat→Rec) (p17:ST) (k18:KT) (p82:ST):RT:=AJ (N2 n ff p17 k18) n (tv [tI (vI p82 0),.bool (vB p82 1)],rh p82 0 Be)
noncomputable def Vw (n:Nat) (ff:Nat→Rec) (k18:KT) (p17:ST):RT:=ff 11 (List Tree) (.fn 71 [AV.ptr 7 0]) (rh p17 0 CA) fun rs h1=>cnd (A0 C.P (Ax C.P 71) rs=true) (Db (rh p17 0 CA) h1 fun hs=>k18 (rs,hs)) none
noncomputable def Y5 (n:Nat) (ff:Nat→Rec) (k18:KT) (p17:ST):RT:=join (ZN n ff p17 k18) fun k83=>Vx n ff k83 ([AV.ptr 7 0],rh p17 0 CA)
theorem vC26_8 (n:Nat) (ff:Nat→Rec) (k18:KT) (p17:ST):DD C (FJ C (pcx C (AA C n)) n ff Ea 10) (pcx C (AA C n)) n 71 [AV.ptr 7 0] (rh p17 0 CA) (fun rs h1=>cnd (A0 C.P (Ax C.P 71) rs=true) (Db (rh p17 0 CA) h1 fun hs=>k18 (rs,hs)) none)=Y5 n ff k18 p17:=by kernel_rfl
theorem tC26_8 (n:Nat) (k18:KT) (p17:ST):Vw n (fI C n) k18 p17=Y5 n (fI C n) k18 p17:=(FR C n Ea 10 _ 71 _ _ _).trans (vC26_8 n (fI C n) k18 p17)
noncomputable def T9 (n:Nat) (ff:Nat→Rec) (p303:ST):RT:=some (ct [1,0,1,0] p303 7 36 [tI (cI p303 7 26),tI (cI p303 7 11),tI (w64 (cI p303 7 3+cI p303 7 7)),tI 0])
theorem v26 (n:Nat) (ff:Nat→Rec) (a0 a1 a2 a3 a4 a5 a6 a7 a8:Int) (a9:ByteArray) (a10:TT) (a11:Int) (a12:TT):Jq C (FJ C (pcx C (AA C n)) n ff Ea C.depth) (pcx C (AA C n)) n 26 [tI a0,tI a1,tI a2,tI a3,tI a4,tI a5,tI a6,tI a7,tI a8,.str a9,.sl 1 a10,tI a11,.sl 2 a12]=cnd (decide ((length a10:Int)>1000)=true) (some (zt [1,0,1,0,0,0,0] [tI 4])) (cnd (decide (a11<(-1))=true) (some (zt [1,0,1,0,0,0,0] [tI 2])) (bd [0] (AA C n 67 [.sl 2 a12]) fun y13=>cnd (((gI y13 0) != 0)=true) (some (zt [1,0,1,0,0,0,0] [tI 1])) (bd [0,0,0,0,0,0,0,0,2,0,0,0,5,0,0,12,0] (AA C n 2004367 [tI a0,tI a1,tI a2,tI a3,tI a4,tI a5,tI a6,tI 0,.str a9,tI a7,tI a8]) fun y14=>cnd (((gI y14 16) != 0)=true) (cnd (((gI y14 16) != 0)=true) (some (zt [1,0,1,0,0,0,0] [tI (gI y14 16)])) none) (bd [0,13,0,0,0] (AA C n 69 [tI a5]) fun y15=>bd [0,0,5,2,0] (AA C n 70 [tI 0]) fun y16=>join (T9 n ff) fun k304=>Vw n ff k304 ([AV.ptr 7 0],[.box (tv (zt [1,0,1,0,0,0,0] [])),.row false 0 9 (gL y14 15),.row true 0 15 [[tI (gI y14 0),tI (gI y14 1),tI (gI y14 2),tI (gI y14 3),tI (gI y14 4),tI (gI y14 5),tI (gI y14 6),tI (gI y14 7),.str (gS y14 8),tI (gI y14 9),tI (gI y14 10),tI (gI y14 11),.sl 2 (gL y14 12),tI (gI y14 13),tI (gI y14 14)]],.row true 0 4 [[tI (gI y15 0),.sl 10 (gL y15 1),tI (gI y15 2),tI (gI y15 3)]],.row true 0 4 [[tI (gI y16 0),tI (gI y16 1),.sl 2 (gL y16 2),.str (gS y16 3)]],.row false 0 9 [],.row false 0 9 [],.box [.t (tI (gI y15 0)),.t (.sl 10 (gL y15 1)),.t (tI (gI y15 2)),.t (tI (gI y15 3)),.t (tI (gI y15 0)),.t (.sl 10 (gL y15 1)),.t (tI (gI y15 2)),.t (tI (gI y15 3)),.t (.sl 1 a10),.t (tI a11),.t (.sl 2 a12),.t (tI 0),.t (tI 0),.sref 5 0 0 0,.sref 6 0 0 0,.t (tI 0),.t (tI (gI y14 0)),.t (tI (gI y14 1)),.t (tI (gI y14 2)),.t (tI (gI y14 3)),.t (tI (gI y14 4)),.t (tI (gI y14 5)),.t (tI (gI y14 6)),.t (tI (gI y14 7)),.t (.str (gS y14 8)),.t (tI (gI y14 9)),.t (tI (gI y14 10)),.t (tI (gI y14 11)),.t (.sl 2 (gL y14 12)),.t (tI (gI y14 13)),.t (tI (gI y14 14)),.t (tI (gI y16 0)),.t (tI (gI y16 1)),.t (.sl 2 (gL y16 2)),.t (.str (gS y16 3)),.sref 1 0 0 (length (gL y14 15)),.t (.bool false),.t (tI 0),.t (.bool false),.t (tI 0)]]))))):=by kernel_rfl
theorem u26 (a0:Int) (a1:Int) (a2:Int) (a3:Int) (a4:Int) (a5:Int) (a6:Int) (a7:Int) (a8:Int) (a9:ByteArray) (a10:List (List Tree)) (a11:Int) (a12:List (List Tree)):C.ext 26 [tI a0,tI a1,tI a2,tI a3,tI a4,tI a5,tI a6,tI a7,tI a8,.str a9,.sl 1 a10,tI a11,.sl 2 a12]=none:=by kernel_rfl
theorem e26 (n:Nat) (a0 a1 a2 a3 a4 a5 a6 a7 a8:Int) (a9:ByteArray) (a10:TT) (a11:Int) (a12:TT):AA C (n+1) 26 [tI a0,tI a1,tI a2,tI a3,tI a4,tI a5,tI a6,tI a7,tI a8,.str a9,.sl 1 a10,tI a11,.sl 2 a12]=cnd (decide ((length a10:Int)>1000)=true) (some (zt [1,0,1,0,0,0,0] [tI 4])) (cnd (decide (a11<(-1))=true) (some (zt [1,0,1,0,0,0,0] [tI 2])) (bd [0] (AA C n 67 [.sl 2 a12]) fun y13=>cnd (((gI y13 0) != 0)=true) (some (zt [1,0,1,0,0,0,0] [tI 1])) (bd [0,0,0,0,0,0,0,0,2,0,0,0,5,0,0,12,0] (AA C n 2004367 [tI a0,tI a1,tI a2,tI a3,tI a4,tI a5,tI a6,tI 0,.str a9,tI a7,tI a8]) fun y14=>cnd (((gI y14 16) != 0)=true) (cnd (((gI y14 16) != 0)=true) (some (zt [1,0,1,0,0,0,0] [tI (gI y14 16)])) none) (bd [0,13,0,0,0] (AA C n 69 [tI a5]) fun y15=>bd [0,0,5,2,0] (AA C n 70 [tI 0]) fun y16=>join (fun (p303:ST)=>T9 n (fI C n) p303) fun k304=>Vw n (fI C n) k304 ([AV.ptr 7 0],[.box (tv (zt [1,0,1,0,0,0,0] [])),.row false 0 9 (gL y14 15),.row true 0 15 [[tI (gI y14 0),tI (gI y14 1),tI (gI y14 2),tI (gI y14 3),tI (gI y14 4),tI (gI y14 5),tI (gI y14 6),tI (gI y14 7),.str (gS y14 8),tI (gI y14 9),tI (gI y14 10),tI (gI y14 11),.sl 2 (gL y14 12),tI (gI y14 13),tI (gI y14 14)]],.row true 0 4 [[tI (gI y15 0),.sl 10 (gL y15 1),tI (gI y15 2),tI (gI y15 3)]],.row true 0 4 [[tI (gI y16 0),tI (gI y16 1),.sl 2 (gL y16 2),.str (gS y16 3)]],.row false 0 9 [],.row false 0 9 [],.box [.t (tI (gI y15 0)),.t (.sl 10 (gL y15 1)),.t (tI (gI y15 2)),.t (tI (gI y15 3)),.t (tI (gI y15 0)),.t (.sl 10 (gL y15 1)),.t (tI (gI y15 2)),.t (tI (gI y15 3)),.t (.sl 1 a10),.t (tI a11),.t (.sl 2 a12),.t (tI 0),.t (tI 0),.sref 5 0 0 0,.sref 6 0 0 0,.t (tI 0),.t (tI (gI y14 0)),.t (tI (gI y14 1)),.t (tI (gI y14 2)),.t (tI (gI y14 3)),.t (tI (gI y14 4)),.t (tI (gI y14 5)),.t (tI (gI y14 6)),.t (tI (gI y14 7)),.t (.str (gS y14 8)),.t (tI (gI y14 9)),.t (tI (gI y14 10)),.t (tI (gI y14 11)),.t (.sl 2 (gL y14 12)),.t (tI (gI y14 13)),.t (tI (gI y14 14)),.t (tI (gI y16 0)),.t (tI (gI y16 1)),.t (.sl 2 (gL y16 2)),.t (.str (gS y16 3)),.sref 1 0 0 (length (gL y14 15)),.t (.bool false),.t (tI 0),.t (.bool false),.t (tI 0)]]))))):=(Nl C n 26 _ (by decide) (u26 a0 a1 a2 a3 a4 a5 a6 a7 a8 a9 a10 a11 a12)).trans ((pureO C n Ea 26 _).symm.trans (v26 n (fI C n) a0 a1 a2 a3 a4 a5 a6 a7 a8 a9 a10 a11 a12))
end Ab
set_option linter.unusedVariables false
set_option linter.unusedSimpArgs false
set_option maxRecDepth 100000
namespace Ab
open Go
def Af (g:Gh) (s:Ses):List AV:=[.t (tI s.dat.rng),.t (.sl 10 (s.dat.frames.map Frame.enc)),.t (tI s.dat.sent),.t (tI s.dat.lost),.t (tI s.rep.rng),.t (.sl 10 (s.rep.frames.map Frame.enc)),.t (tI s.rep.sent),.t (tI s.rep.lost),.t (.sl 1 (s.picks.map Bh)),.t (tI s.limit),.t (.sl 2 (s.dark.map Span.enc)),.t (tI s.entered),.t (tI s.dist),.sref 5 g.v4 0 s.sent.length,.sref 6 g.v5 0 s.told.length,.t (tI s.now),.t (tI s.snd.c.frm),.t (tI s.snd.c.dst),.t (tI s.snd.c.start),.t (tI s.snd.c.fin),.t (tI s.snd.c.rate),.t (tI s.snd.c.rng),.t (tI s.snd.c.loss),.t (tI s.snd.ses),.t (.str s.snd.data),.t (tI s.snd.fin),.t (tI s.snd.busy),.t (tI s.snd.ser),.t (.sl 2 (s.snd.acked.map Span.enc)),.t (tI s.snd.due),.t (tI s.snd.st),.t (tI s.rcv.ses),.t (tI s.rcv.tot),.t (.sl 2 (s.rcv.known.map Span.enc)),.t (.str s.rcv.data),.sref 1 g.v0 g.pre.length s.pend.length,.t (.bool s.rcvd),.t (tI s.arrive),.t (.bool s.kno),.t (tI s.knoAt)]
def AX (f1 f2 f3:AF) (v0:Nat) (e0:List (List Tree)) (v4:Nat) (e4:List (List Tree)) (v5:Nat) (e5:List (List Tree)) (c:List AV) (tl:Heap):Heap:=
 .box [.t (.bool false),.t (tI 0),.t (.bool false),.t (tI 0),.t (tI 0),.t (tI 0),.t (tI 0)] :: .row false v0 9 e0::f1::f2::f3 :: .row false v4 9 e4 :: .row false v5 9 e5 :: .box c::tl
def H26 (f1 f2 f3:AF) (g:Gh) (s:Ses) (tl:Heap):Heap:=AX f1 f2 f3 g.v0 (g.pre++s.pend.map Out.enc) g.v4 (s.sent.map Out.enc) g.v5 (s.told.map Out.enc) (Af g s) tl
theorem rd26 :
 (∀(e:List AV) (f1 f2 f3:AF) (v0:Nat) (e0:List (List Tree)) (v4:Nat) (e4:List (List Tree)) (v5:Nat) (e5:List (List Tree)) (g:Gh) (s:Ses) (tl:Heap),
  cI (e,AX f1 f2 f3 v0 e0 v4 e4 v5 e5 (Af g s) tl) 7 0=s.dat.rng∧
  cL (e,AX f1 f2 f3 v0 e0 v4 e4 v5 e5 (Af g s) tl) 7 1=s.dat.frames.map Frame.enc∧
  cI (e,AX f1 f2 f3 v0 e0 v4 e4 v5 e5 (Af g s) tl) 7 2=s.dat.sent∧
  cI (e,AX f1 f2 f3 v0 e0 v4 e4 v5 e5 (Af g s) tl) 7 3=s.dat.lost∧
  cI (e,AX f1 f2 f3 v0 e0 v4 e4 v5 e5 (Af g s) tl) 7 4=s.rep.rng∧
  cL (e,AX f1 f2 f3 v0 e0 v4 e4 v5 e5 (Af g s) tl) 7 5=s.rep.frames.map Frame.enc∧
  cI (e,AX f1 f2 f3 v0 e0 v4 e4 v5 e5 (Af g s) tl) 7 6=s.rep.sent∧
  cI (e,AX f1 f2 f3 v0 e0 v4 e4 v5 e5 (Af g s) tl) 7 7=s.rep.lost∧
  cL (e,AX f1 f2 f3 v0 e0 v4 e4 v5 e5 (Af g s) tl) 7 8=s.picks.map Bh∧
  cI (e,AX f1 f2 f3 v0 e0 v4 e4 v5 e5 (Af g s) tl) 7 9=s.limit∧
  cL (e,AX f1 f2 f3 v0 e0 v4 e4 v5 e5 (Af g s) tl) 7 10=s.dark.map Span.enc∧
  cI (e,AX f1 f2 f3 v0 e0 v4 e4 v5 e5 (Af g s) tl) 7 11=s.entered∧
  cI (e,AX f1 f2 f3 v0 e0 v4 e4 v5 e5 (Af g s) tl) 7 12=s.dist∧
  AI (e,AX f1 f2 f3 v0 e0 v4 e4 v5 e5 (Af g s) tl) 7 13=g.v4∧
  AL (e,AX f1 f2 f3 v0 e0 v4 e4 v5 e5 (Af g s) tl) 7 13=0∧
  AH (e,AX f1 f2 f3 v0 e0 v4 e4 v5 e5 (Af g s) tl) 7 13=s.sent.length∧
  AI (e,AX f1 f2 f3 v0 e0 v4 e4 v5 e5 (Af g s) tl) 7 14=g.v5∧
  AL (e,AX f1 f2 f3 v0 e0 v4 e4 v5 e5 (Af g s) tl) 7 14=0∧
  AH (e,AX f1 f2 f3 v0 e0 v4 e4 v5 e5 (Af g s) tl) 7 14=s.told.length∧
  cI (e,AX f1 f2 f3 v0 e0 v4 e4 v5 e5 (Af g s) tl) 7 15=s.now∧
  cI (e,AX f1 f2 f3 v0 e0 v4 e4 v5 e5 (Af g s) tl) 7 16=s.snd.c.frm∧
  cI (e,AX f1 f2 f3 v0 e0 v4 e4 v5 e5 (Af g s) tl) 7 17=s.snd.c.dst∧
  cI (e,AX f1 f2 f3 v0 e0 v4 e4 v5 e5 (Af g s) tl) 7 18=s.snd.c.start∧
  cI (e,AX f1 f2 f3 v0 e0 v4 e4 v5 e5 (Af g s) tl) 7 19=s.snd.c.fin∧
  cI (e,AX f1 f2 f3 v0 e0 v4 e4 v5 e5 (Af g s) tl) 7 20=s.snd.c.rate∧
  cI (e,AX f1 f2 f3 v0 e0 v4 e4 v5 e5 (Af g s) tl) 7 21=s.snd.c.rng∧
  cI (e,AX f1 f2 f3 v0 e0 v4 e4 v5 e5 (Af g s) tl) 7 22=s.snd.c.loss∧
  cI (e,AX f1 f2 f3 v0 e0 v4 e4 v5 e5 (Af g s) tl) 7 23=s.snd.ses∧
  cS (e,AX f1 f2 f3 v0 e0 v4 e4 v5 e5 (Af g s) tl) 7 24=s.snd.data∧
  cI (e,AX f1 f2 f3 v0 e0 v4 e4 v5 e5 (Af g s) tl) 7 25=s.snd.fin∧
  cI (e,AX f1 f2 f3 v0 e0 v4 e4 v5 e5 (Af g s) tl) 7 26=s.snd.busy∧
  cI (e,AX f1 f2 f3 v0 e0 v4 e4 v5 e5 (Af g s) tl) 7 27=s.snd.ser∧
  cL (e,AX f1 f2 f3 v0 e0 v4 e4 v5 e5 (Af g s) tl) 7 28=s.snd.acked.map Span.enc∧
  cI (e,AX f1 f2 f3 v0 e0 v4 e4 v5 e5 (Af g s) tl) 7 29=s.snd.due∧
  cI (e,AX f1 f2 f3 v0 e0 v4 e4 v5 e5 (Af g s) tl) 7 30=s.snd.st∧
  cI (e,AX f1 f2 f3 v0 e0 v4 e4 v5 e5 (Af g s) tl) 7 31=s.rcv.ses∧
  cI (e,AX f1 f2 f3 v0 e0 v4 e4 v5 e5 (Af g s) tl) 7 32=s.rcv.tot∧
  cL (e,AX f1 f2 f3 v0 e0 v4 e4 v5 e5 (Af g s) tl) 7 33=s.rcv.known.map Span.enc∧
  cS (e,AX f1 f2 f3 v0 e0 v4 e4 v5 e5 (Af g s) tl) 7 34=s.rcv.data∧
  AI (e,AX f1 f2 f3 v0 e0 v4 e4 v5 e5 (Af g s) tl) 7 35=g.v0∧
  AL (e,AX f1 f2 f3 v0 e0 v4 e4 v5 e5 (Af g s) tl) 7 35=g.pre.length∧
  AH (e,AX f1 f2 f3 v0 e0 v4 e4 v5 e5 (Af g s) tl) 7 35=s.pend.length∧
  cB (e,AX f1 f2 f3 v0 e0 v4 e4 v5 e5 (Af g s) tl) 7 36=s.rcvd∧
  cI (e,AX f1 f2 f3 v0 e0 v4 e4 v5 e5 (Af g s) tl) 7 37=s.arrive∧
  cB (e,AX f1 f2 f3 v0 e0 v4 e4 v5 e5 (Af g s) tl) 7 38=s.kno∧
  cI (e,AX f1 f2 f3 v0 e0 v4 e4 v5 e5 (Af g s) tl) 7 39=s.knoAt)∧
 (∀(e:List AV) (f1 f2 f3:AF) (v0:Nat) (e0:List (List Tree)) (v4:Nat) (e4:List (List Tree)) (v5:Nat) (e5:List (List Tree)) (c:List AV) (tl:Heap),
  AB (e,AX f1 f2 f3 v0 e0 v4 e4 v5 e5 c tl) 1=v0∧
  oEs (e,AX f1 f2 f3 v0 e0 v4 e4 v5 e5 c tl) 1=e0∧
  AB (e,AX f1 f2 f3 v0 e0 v4 e4 v5 e5 c tl) 5=v4∧
  oEs (e,AX f1 f2 f3 v0 e0 v4 e4 v5 e5 c tl) 5=e4∧
  AB (e,AX f1 f2 f3 v0 e0 v4 e4 v5 e5 c tl) 6=v5∧
  oEs (e,AX f1 f2 f3 v0 e0 v4 e4 v5 e5 c tl) 6=e5∧
  AB (e,AX f1 f2 f3 v0 e0 v4 e4 v5 e5 c tl) 2=AF.ver f1∧
  oEs (e,AX f1 f2 f3 v0 e0 v4 e4 v5 e5 c tl) 2=Aq f1∧
  AB (e,AX f1 f2 f3 v0 e0 v4 e4 v5 e5 c tl) 3=AF.ver f2∧
  oEs (e,AX f1 f2 f3 v0 e0 v4 e4 v5 e5 c tl) 3=Aq f2∧
  AB (e,AX f1 f2 f3 v0 e0 v4 e4 v5 e5 c tl) 4=AF.ver f3∧
  oEs (e,AX f1 f2 f3 v0 e0 v4 e4 v5 e5 c tl) 4=Aq f3)∧
 (∀(e:List AV) (f1 f2 f3:AF) (v0:Nat) (e0:List (List Tree)) (v4:Nat) (e4:List (List Tree)) (v5:Nat) (e5:List (List Tree)) (c:List AV) (o0:AF) (tl:Heap),
  AB (e,AX f1 f2 f3 v0 e0 v4 e4 v5 e5 c (o0::tl)) 8=AF.ver o0∧
  oEs (e,AX f1 f2 f3 v0 e0 v4 e4 v5 e5 c (o0::tl)) 8=Aq o0)∧
 (∀(e:List AV) (f1 f2 f3:AF) (v0:Nat) (e0:List (List Tree)) (v4:Nat) (e4:List (List Tree)) (v5:Nat) (e5:List (List Tree)) (c:List AV) (o0:AF) (tl:Heap) (j:Nat),
  cI (e,AX f1 f2 f3 v0 e0 v4 e4 v5 e5 c (o0::tl)) 8 j=intOf (AD (cellOf o0 j))∧
  cB (e,AX f1 f2 f3 v0 e0 v4 e4 v5 e5 c (o0::tl)) 8 j=Av (AD (cellOf o0 j))∧
  cS (e,AX f1 f2 f3 v0 e0 v4 e4 v5 e5 c (o0::tl)) 8 j=strOf (AD (cellOf o0 j))∧
  cL (e,AX f1 f2 f3 v0 e0 v4 e4 v5 e5 c (o0::tl)) 8 j=Bm (AD (cellOf o0 j)))∧
 (∀(e:List AV) (f1 f2 f3:AF) (v0:Nat) (e0:List (List Tree)) (v4:Nat) (e4:List (List Tree)) (v5:Nat) (e5:List (List Tree)) (c:List AV) (o0 o1:AF) (tl:Heap),
  AB (e,AX f1 f2 f3 v0 e0 v4 e4 v5 e5 c (o0::o1::tl)) 9=AF.ver o1∧
  oEs (e,AX f1 f2 f3 v0 e0 v4 e4 v5 e5 c (o0::o1::tl)) 9=Aq o1)∧
 (∀(e:List AV) (f1 f2 f3:AF) (v0:Nat) (e0:List (List Tree)) (v4:Nat) (e4:List (List Tree)) (v5:Nat) (e5:List (List Tree)) (c:List AV) (o0 o1:AF) (tl:Heap) (j:Nat),
  cI (e,AX f1 f2 f3 v0 e0 v4 e4 v5 e5 c (o0::o1::tl)) 9 j=intOf (AD (cellOf o1 j))∧
  cB (e,AX f1 f2 f3 v0 e0 v4 e4 v5 e5 c (o0::o1::tl)) 9 j=Av (AD (cellOf o1 j))∧
  cS (e,AX f1 f2 f3 v0 e0 v4 e4 v5 e5 c (o0::o1::tl)) 9 j=strOf (AD (cellOf o1 j))∧
  cL (e,AX f1 f2 f3 v0 e0 v4 e4 v5 e5 c (o0::o1::tl)) 9 j=Bm (AD (cellOf o1 j)))∧
 (∀(e:List AV) (f1 f2 f3:AF) (v0:Nat) (e0:List (List Tree)) (v4:Nat) (e4:List (List Tree)) (v5:Nat) (e5:List (List Tree)) (c:List AV) (o0 o1 o2:AF) (tl:Heap),
  AB (e,AX f1 f2 f3 v0 e0 v4 e4 v5 e5 c (o0::o1::o2::tl)) 10=AF.ver o2∧
  oEs (e,AX f1 f2 f3 v0 e0 v4 e4 v5 e5 c (o0::o1::o2::tl)) 10=Aq o2)∧
 (∀(e:List AV) (f1 f2 f3:AF) (v0:Nat) (e0:List (List Tree)) (v4:Nat) (e4:List (List Tree)) (v5:Nat) (e5:List (List Tree)) (c:List AV) (o0 o1 o2:AF) (tl:Heap) (j:Nat),
  cI (e,AX f1 f2 f3 v0 e0 v4 e4 v5 e5 c (o0::o1::o2::tl)) 10 j=intOf (AD (cellOf o2 j))∧
  cB (e,AX f1 f2 f3 v0 e0 v4 e4 v5 e5 c (o0::o1::o2::tl)) 10 j=Av (AD (cellOf o2 j))∧
  cS (e,AX f1 f2 f3 v0 e0 v4 e4 v5 e5 c (o0::o1::o2::tl)) 10 j=strOf (AD (cellOf o2 j))∧
  cL (e,AX f1 f2 f3 v0 e0 v4 e4 v5 e5 c (o0::o1::o2::tl)) 10 j=Bm (AD (cellOf o2 j)))∧
 (∀(e:List AV) (f1 f2 f3:AF) (v0:Nat) (e0:List (List Tree)) (v4:Nat) (e4:List (List Tree)) (v5:Nat) (e5:List (List Tree)) (c:List AV) (o0 o1 o2 o3:AF) (tl:Heap),
  AB (e,AX f1 f2 f3 v0 e0 v4 e4 v5 e5 c (o0::o1::o2::o3::tl)) 11=AF.ver o3∧
  oEs (e,AX f1 f2 f3 v0 e0 v4 e4 v5 e5 c (o0::o1::o2::o3::tl)) 11=Aq o3)∧
 (∀(e:List AV) (f1 f2 f3:AF) (v0:Nat) (e0:List (List Tree)) (v4:Nat) (e4:List (List Tree)) (v5:Nat) (e5:List (List Tree)) (c:List AV) (o0 o1 o2 o3:AF) (tl:Heap) (j:Nat),
  cI (e,AX f1 f2 f3 v0 e0 v4 e4 v5 e5 c (o0::o1::o2::o3::tl)) 11 j=intOf (AD (cellOf o3 j))∧
  cB (e,AX f1 f2 f3 v0 e0 v4 e4 v5 e5 c (o0::o1::o2::o3::tl)) 11 j=Av (AD (cellOf o3 j))∧
  cS (e,AX f1 f2 f3 v0 e0 v4 e4 v5 e5 c (o0::o1::o2::o3::tl)) 11 j=strOf (AD (cellOf o3 j))∧
  cL (e,AX f1 f2 f3 v0 e0 v4 e4 v5 e5 c (o0::o1::o2::o3::tl)) 11 j=Bm (AD (cellOf o3 j)))∧
 (∀(e:List AV) (f1 f2 f3:AF) (v0:Nat) (e0:List (List Tree)) (v4:Nat) (e4:List (List Tree)) (v5:Nat) (e5:List (List Tree)) (c:List AV) (o0 o1 o2 o3 o4:AF) (tl:Heap),
  AB (e,AX f1 f2 f3 v0 e0 v4 e4 v5 e5 c (o0::o1::o2::o3::o4::tl)) 12=AF.ver o4∧
  oEs (e,AX f1 f2 f3 v0 e0 v4 e4 v5 e5 c (o0::o1::o2::o3::o4::tl)) 12=Aq o4)∧
 (∀(e:List AV) (f1 f2 f3:AF) (v0:Nat) (e0:List (List Tree)) (v4:Nat) (e4:List (List Tree)) (v5:Nat) (e5:List (List Tree)) (c:List AV) (o0 o1 o2 o3 o4:AF) (tl:Heap) (j:Nat),
  cI (e,AX f1 f2 f3 v0 e0 v4 e4 v5 e5 c (o0::o1::o2::o3::o4::tl)) 12 j=intOf (AD (cellOf o4 j))∧
  cB (e,AX f1 f2 f3 v0 e0 v4 e4 v5 e5 c (o0::o1::o2::o3::o4::tl)) 12 j=Av (AD (cellOf o4 j))∧
  cS (e,AX f1 f2 f3 v0 e0 v4 e4 v5 e5 c (o0::o1::o2::o3::o4::tl)) 12 j=strOf (AD (cellOf o4 j))∧
  cL (e,AX f1 f2 f3 v0 e0 v4 e4 v5 e5 c (o0::o1::o2::o3::o4::tl)) 12 j=Bm (AD (cellOf o4 j))):=by
 refine ⟨?_,?_,?_,?_,?_,?_,?_,?_,?_,?_,?_,?_⟩
 ·intros;exact ⟨rfl,rfl,rfl,rfl,rfl,rfl,rfl,rfl,rfl,rfl,rfl,rfl,rfl,rfl,rfl,rfl,rfl,rfl,rfl,rfl,rfl,rfl,rfl,rfl,rfl,rfl,rfl,rfl,rfl,rfl,rfl,rfl,rfl,rfl,rfl,rfl,rfl,rfl,rfl,rfl,rfl,rfl,rfl,rfl,rfl,rfl⟩
 ·intros;exact ⟨rfl,rfl,rfl,rfl,rfl,rfl,rfl,rfl,rfl,rfl,rfl,rfl⟩
 ·intros;exact ⟨rfl,rfl⟩
 ·intros;exact ⟨rfl,rfl,rfl,rfl⟩
 ·intros;exact ⟨rfl,rfl⟩
 ·intros;exact ⟨rfl,rfl,rfl,rfl⟩
 ·intros;exact ⟨rfl,rfl⟩
 ·intros;exact ⟨rfl,rfl,rfl,rfl⟩
 ·intros;exact ⟨rfl,rfl⟩
 ·intros;exact ⟨rfl,rfl,rfl,rfl⟩
 ·intros;exact ⟨rfl,rfl⟩
 ·intros;exact ⟨rfl,rfl,rfl,rfl⟩
variable (e:List AV) (g:Gh) (s:Ses) (f1 f2 f3:AF) (v0:Nat) (e0:List (List Tree)) (v4:Nat) (e4:List (List Tree)) (v5:Nat) (e5:List (List Tree))
theorem Xp (tl:Heap):rh (e,AX f1 f2 f3 v0 e0 v4 e4 v5 e5 (Af g s) (tl)) 0 Be=AX E0 E0 E0 v0 e0 v4 e4 v5 e5 (Af g s) []:=by intros;rfl
theorem Xt (tl:Heap):rh (e,AX f1 f2 f3 v0 e0 v4 e4 v5 e5 (Af g s) (tl)) 0 CA=AX (.row true f1.ver 15 (Aq f1)) (.row true f2.ver 4 (Aq f2)) (.row true f3.ver 4 (Aq f3)) v0 e0 v4 e4 v5 e5 (Af g s) []:=by intros;rfl
theorem Xr (o0 o1:AF) (tl:Heap):rh (e,AX f1 f2 f3 v0 e0 v4 e4 v5 e5 (Af g s) (o0::o1::tl)) 0 Dg=AX E0 E0 E0 v0 e0 v4 e4 v5 e5 (Af g s) [.box [.t (tI (intOf (AD (cellOf o0 0))))],.box [.t (.bool (Av (AD (cellOf o1 0))))]]:=by intros;rfl
theorem Xn (o0:AF) (tl:Heap):rh (e,AX f1 f2 f3 v0 e0 v4 e4 v5 e5 (Af g s) (o0::tl)) 0 PZ=AX E0 E0 E0 v0 e0 v4 e4 v5 e5 (Af g s) [.box [.t (tI (intOf (AD (cellOf o0 0)))),.t (tI (intOf (AD (cellOf o0 1)))),.t (tI (intOf (AD (cellOf o0 2)))),.t (tI (intOf (AD (cellOf o0 3)))),.t (tI (intOf (AD (cellOf o0 4)))),.t (.bool (Av (AD (cellOf o0 5)))),.t (.str (strOf (AD (cellOf o0 6)))),.t (.sl 2 (Bm (AD (cellOf o0 7))))]]:=by intros;rfl
theorem Xl (o0:AF) (tl:Heap):rh (e,AX f1 f2 f3 v0 e0 v4 e4 v5 e5 (Af g s) (o0::tl)) 0 Cc=AX E0 E0 E0 v0 e0 v4 e4 v5 e5 (Af g s) [.row false o0.ver 8 (Aq o0)]:=by intros;rfl
theorem U7 (o0 o1:AF) (tl:Heap):rh (e,AX f1 f2 f3 v0 e0 v4 e4 v5 e5 (Af g s) (o0::o1::tl)) 0 LY=AX E0 E0 E0 v0 e0 v4 e4 v5 e5 (Af g s) [.row false o0.ver 8 (Aq o0),.box [.t (tI (intOf (AD (cellOf o1 0)))),.t (tI (intOf (AD (cellOf o1 1)))),.t (tI (intOf (AD (cellOf o1 2)))),.t (tI (intOf (AD (cellOf o1 3)))),.t (tI (intOf (AD (cellOf o1 4)))),.t (.bool (Av (AD (cellOf o1 5)))),.t (.str (strOf (AD (cellOf o1 6)))),.t (.sl 2 (Bm (AD (cellOf o1 7))))]]:=by intros;rfl
theorem U5 (o0 o1 o2:AF) (tl:Heap):rh (e,AX f1 f2 f3 v0 e0 v4 e4 v5 e5 (Af g s) (o0::o1::o2::tl)) 0 JX=AX (.row true f1.ver 15 (Aq f1)) (.row true f2.ver 4 (Aq f2)) (.row true f3.ver 4 (Aq f3)) v0 e0 v4 e4 v5 e5 (Af g s) [.row false o0.ver 8 (Aq o0),.box [.t (tI (intOf (AD (cellOf o1 0)))),.t (tI (intOf (AD (cellOf o1 1)))),.t (.sl 2 (Bm (AD (cellOf o1 2)))),.t (.str (strOf (AD (cellOf o1 3))))],.box [.t (tI (intOf (AD (cellOf o2 0)))),.t (tI (intOf (AD (cellOf o2 1)))),.t (tI (intOf (AD (cellOf o2 2)))),.t (tI (intOf (AD (cellOf o2 3)))),.t (tI (intOf (AD (cellOf o2 4)))),.t (.bool (Av (AD (cellOf o2 5)))),.t (.str (strOf (AD (cellOf o2 6)))),.t (.sl 2 (Bm (AD (cellOf o2 7))))]]:=by intros;rfl
theorem U3 (o0 o1 o2:AF) (tl:Heap):rh (e,AX f1 f2 f3 v0 e0 v4 e4 v5 e5 (Af g s) (o0::o1::o2::tl)) 0 Cb=AX E0 E0 E0 v0 e0 v4 e4 v5 e5 (Af g s) [.row false o0.ver 8 (Aq o0),.box [.t (tI (intOf (AD (cellOf o1 0)))),.t (tI (intOf (AD (cellOf o1 1)))),.t (.sl 2 (Bm (AD (cellOf o1 2)))),.t (.str (strOf (AD (cellOf o1 3))))],.box [.t (tI (intOf (AD (cellOf o2 0)))),.t (tI (intOf (AD (cellOf o2 1)))),.t (tI (intOf (AD (cellOf o2 2)))),.t (tI (intOf (AD (cellOf o2 3)))),.t (tI (intOf (AD (cellOf o2 4)))),.t (.bool (Av (AD (cellOf o2 5)))),.t (.str (strOf (AD (cellOf o2 6)))),.t (.sl 2 (Bm (AD (cellOf o2 7))))]]:=by intros;rfl
theorem U1 (o0 o1 o2 o3:AF) (tl:Heap):rh (e,AX f1 f2 f3 v0 e0 v4 e4 v5 e5 (Af g s) (o0::o1::o2::o3::tl)) 0 LX=AX E0 E0 E0 v0 e0 v4 e4 v5 e5 (Af g s) [.row false o0.ver 8 (Aq o0),.box [.t (tI (intOf (AD (cellOf o1 0)))),.t (tI (intOf (AD (cellOf o1 1)))),.t (.sl 2 (Bm (AD (cellOf o1 2)))),.t (.str (strOf (AD (cellOf o1 3))))],.box [.t (tI (intOf (AD (cellOf o2 0)))),.t (tI (intOf (AD (cellOf o2 1)))),.t (tI (intOf (AD (cellOf o2 2)))),.t (tI (intOf (AD (cellOf o2 3)))),.t (tI (intOf (AD (cellOf o2 4)))),.t (.bool (Av (AD (cellOf o2 5)))),.t (.str (strOf (AD (cellOf o2 6)))),.t (.sl 2 (Bm (AD (cellOf o2 7))))],.box [.t (tI (intOf (AD (cellOf o3 0)))),.t (.sl 10 (Bm (AD (cellOf o3 1)))),.t (tI (intOf (AD (cellOf o3 2)))),.t (tI (intOf (AD (cellOf o3 3))))]]:=by intros;rfl
theorem Uz (o0 o1:AF) (tl:Heap):rh (e,AX f1 f2 f3 v0 e0 v4 e4 v5 e5 (Af g s) (o0::o1::tl)) 0 OF=AX E0 E0 E0 v0 e0 v4 e4 v5 e5 (Af g s) [.row false o0.ver 8 (Aq o0),.box [.t (tI (intOf (AD (cellOf o1 0)))),.t (tI (intOf (AD (cellOf o1 1)))),.t (.sl 2 (Bm (AD (cellOf o1 2)))),.t (.str (strOf (AD (cellOf o1 3))))]]:=by intros;rfl
theorem Ux (o0:AF) (tl:Heap):rh (e,AX f1 f2 f3 v0 e0 v4 e4 v5 e5 (Af g s) (o0::tl)) 0 LW=AX E0 E0 E0 v0 e0 v4 e4 v5 e5 (Af g s) [.box [.t (tI (intOf (AD (cellOf o0 0)))),.t (.sl 10 (Bm (AD (cellOf o0 1)))),.t (tI (intOf (AD (cellOf o0 2)))),.t (tI (intOf (AD (cellOf o0 3))))]]:=by intros;rfl
theorem Xi (x y:AF):upd (rh (e,AX f1 f2 f3 v0 e0 v4 e4 v5 e5 (Af g s) []) 0 Dg) [(8,x),(9,y)]=AX E0 E0 E0 v0 e0 v4 e4 v5 e5 (Af g s) [x,y]:=by intros;rfl
theorem Xg (x:AF):upd (rh (e,AX f1 f2 f3 v0 e0 v4 e4 v5 e5 (Af g s) []) 0 PZ) [(8,x)]=AX E0 E0 E0 v0 e0 v4 e4 v5 e5 (Af g s) [x]:=by intros;rfl
theorem Xe (x:AF):upd (rh (e,AX f1 f2 f3 v0 e0 v4 e4 v5 e5 (Af g s) []) 0 Cc) [(8,x)]=AX E0 E0 E0 v0 e0 v4 e4 v5 e5 (Af g s) [x]:=by intros;rfl
theorem Uv (o0:AF) (x y:AF):upd (rh (e,AX f1 f2 f3 v0 e0 v4 e4 v5 e5 (Af g s) [o0]) 0 LY) [(8,x),(9,y)]=AX E0 E0 E0 v0 e0 v4 e4 v5 e5 (Af g s) [x,y]:=by intros;rfl
theorem Up (o0:AF) (y:AF):upd (rh (e,AX f1 f2 f3 v0 e0 v4 e4 v5 e5 (Af g s) [o0]) 0 OF) [(9,y)]=AX E0 E0 E0 v0 e0 v4 e4 v5 e5 (Af g s) [.row false o0.ver 8 (Aq o0),y]:=by intros;rfl
theorem Ur (o0 o1 o2:AF) (y:AF):upd (rh (e,AX f1 f2 f3 v0 e0 v4 e4 v5 e5 (Af g s) [o0,o1,o2]) 0 LX) [(11,y)]=AX E0 E0 E0 v0 e0 v4 e4 v5 e5 (Af g s) [.row false o0.ver 8 (Aq o0),.box [.t (tI (intOf (AD (cellOf o1 0)))),.t (tI (intOf (AD (cellOf o1 1)))),.t (.sl 2 (Bm (AD (cellOf o1 2)))),.t (.str (strOf (AD (cellOf o1 3))))],.box [.t (tI (intOf (AD (cellOf o2 0)))),.t (tI (intOf (AD (cellOf o2 1)))),.t (tI (intOf (AD (cellOf o2 2)))),.t (tI (intOf (AD (cellOf o2 3)))),.t (tI (intOf (AD (cellOf o2 4)))),.t (.bool (Av (AD (cellOf o2 5)))),.t (.str (strOf (AD (cellOf o2 6)))),.t (.sl 2 (Bm (AD (cellOf o2 7))))],y]:=by intros;rfl
theorem Un (y:AF):upd (rh (e,AX f1 f2 f3 v0 e0 v4 e4 v5 e5 (Af g s) []) 0 LW) [(8,y)]=AX E0 E0 E0 v0 e0 v4 e4 v5 e5 (Af g s) [y]:=by intros;rfl
theorem Ut (o0 o1 x y z w:AF):upd (rh (e,AX f1 f2 f3 v0 e0 v4 e4 v5 e5 (Af g s) [o0,o1]) 0 JX) [(2,x),(3,y),(4,z),(10,w)]=AX x y z v0 e0 v4 e4 v5 e5 (Af g s) [.row false o0.ver 8 (Aq o0),.box [.t (tI (intOf (AD (cellOf o1 0)))),.t (tI (intOf (AD (cellOf o1 1)))),.t (.sl 2 (Bm (AD (cellOf o1 2)))),.t (.str (strOf (AD (cellOf o1 3))))],w]:=by intros;rfl
theorem RK (o0 y:AF) (d:List AV):upd (rh (e,AX f1 f2 f3 v0 e0 v4 e4 v5 e5 (Af g s) [o0]) 0 OF) [(7,.box d),(9,y)]=AX E0 E0 E0 v0 e0 v4 e4 v5 e5 d [.row false o0.ver 8 (Aq o0),y]:=by intros;rfl
theorem Q6 (x y z:AF) (c:List AV) (tl:Heap):upd (AX f1 f2 f3 v0 e0 v4 e4 v5 e5 c tl) [(2,x),(3,y),(4,z)]=AX x y z v0 e0 v4 e4 v5 e5 c tl:=by intros;rfl
theorem Oa (x y z w o0 o1 o2:AF) (c:List AV) (tl:Heap):upd (AX f1 f2 f3 v0 e0 v4 e4 v5 e5 c (o0::o1::o2::tl)) [(2,x),(3,y),(4,z),(10,w)]=AX x y z v0 e0 v4 e4 v5 e5 c (o0::o1::w::tl):=by intros;rfl
theorem W7 (d:List AV) (c:List AV) (tl:Heap):upd (AX f1 f2 f3 v0 e0 v4 e4 v5 e5 c tl) [(7,.box d)]=AX f1 f2 f3 v0 e0 v4 e4 v5 e5 d tl:=by intros;rfl
theorem UT (d:List AV) (w:Nat) (r:List (List Tree)) (c:List AV) (tl:Heap):upd (AX f1 f2 f3 v0 e0 v4 e4 v5 e5 c tl) [(1,.row false w 9 r),(7,.box d)]=AX f1 f2 f3 w r v4 e4 v5 e5 d tl:=by intros;rfl
theorem UR (d:List AV) (w:Nat) (r:List (List Tree)) (c:List AV) (tl:Heap):upd (AX f1 f2 f3 v0 e0 v4 e4 v5 e5 c tl) [(5,.row false w 9 r),(7,.box d)]=AX f1 f2 f3 v0 e0 w r v5 e5 d tl:=by intros;rfl
theorem UP (d:List AV) (w:Nat) (r:List (List Tree)) (c:List AV) (tl:Heap):upd (AX f1 f2 f3 v0 e0 v4 e4 v5 e5 c tl) [(6,.row false w 9 r),(7,.box d)]=AX f1 f2 f3 v0 e0 v4 e4 w r d tl:=by intros;rfl
theorem W5 (x o0:AF) (c:List AV) (tl:Heap):upd (AX f1 f2 f3 v0 e0 v4 e4 v5 e5 c (o0::tl)) [(8,x)]=AX f1 f2 f3 v0 e0 v4 e4 v5 e5 c (x::tl):=by intros;rfl
theorem UJ (x y o0 o1:AF) (c:List AV) (tl:Heap):upd (AX f1 f2 f3 v0 e0 v4 e4 v5 e5 c (o0::o1::tl)) [(8,x),(9,y)]=AX f1 f2 f3 v0 e0 v4 e4 v5 e5 c (x::y::tl):=by intros;rfl
theorem UN (x o0:AF) (d:List AV) (c:List AV) (tl:Heap):upd (AX f1 f2 f3 v0 e0 v4 e4 v5 e5 c (o0::tl)) [(7,.box d),(8,x)]=AX f1 f2 f3 v0 e0 v4 e4 v5 e5 d (x::tl):=by intros;rfl
theorem UL (x o0 o1:AF) (d:List AV) (c:List AV) (tl:Heap):upd (AX f1 f2 f3 v0 e0 v4 e4 v5 e5 c (o0::o1::tl)) [(7,.box d),(9,x)]=AX f1 f2 f3 v0 e0 v4 e4 v5 e5 d (o0::x::tl):=by intros;rfl
theorem Xy (tl:Heap):rb (e,AX f1 f2 f3 v0 e0 v4 e4 v5 e5 (Af g s) tl) 7 0 BJ=Af g s:=by intros;rfl
theorem XH (a b d:Int) (fs:List Frame):upd (Af g s) [(0,.t (tI a)),(1,.t (.sl 10 (fs.map Frame.enc))),(2,.t (tI b)),(3,.t (tI d))]=Af g {s with dat:=⟨a,fs,b,d⟩}:=by kernel_rfl
theorem XD (a b d:Int) (fs:List Frame):upd (Af g s) [(4,.t (tI a)),(5,.t (.sl 10 (fs.map Frame.enc))),(6,.t (tI b)),(7,.t (tI d))]=Af g {s with rep:=⟨a,fs,b,d⟩}:=by kernel_rfl
theorem XF (a:Int):upd (Af g s) [(15,.t (tI a))]=Af g {s with now:=a}:=by kernel_rfl
theorem UY (a:Int):upd (Af g s) [(12,.t (tI a))]=Af g {s with dist:=a}:=by kernel_rfl
theorem XB (a:Snd):upd (Af g s) [(16,.t (tI a.c.frm)),(17,.t (tI a.c.dst)),(18,.t (tI a.c.start)),(19,.t (tI a.c.fin)),(20,.t (tI a.c.rate)),(21,.t (tI a.c.rng)),(22,.t (tI a.c.loss)),(23,.t (tI a.ses)),(24,.t (.str a.data)),(25,.t (tI a.fin)),(26,.t (tI a.busy)),(27,.t (tI a.ser)),(28,.t (.sl 2 (a.acked.map Span.enc))),(29,.t (tI a.due)),(30,.t (tI a.st))]=Af g {s with snd:=a}:=by kernel_rfl
theorem UW (a:Snd) (k:Bool) (t:Int):upd (Af g s) [(16,.t (tI a.c.frm)),(17,.t (tI a.c.dst)),(18,.t (tI a.c.start)),(19,.t (tI a.c.fin)),(20,.t (tI a.c.rate)),(21,.t (tI a.c.rng)),(22,.t (tI a.c.loss)),(23,.t (tI a.ses)),(24,.t (.str a.data)),(25,.t (tI a.fin)),(26,.t (tI a.busy)),(27,.t (tI a.ser)),(28,.t (.sl 2 (a.acked.map Span.enc))),(29,.t (tI a.due)),(30,.t (tI a.st)),(38,.t (.bool k)),(39,.t (tI t))]=Af g {s with snd:=a,kno:=k,knoAt:=t}:=by kernel_rfl
theorem W9 (a:Rcv):upd (Af g s) [(31,.t (tI a.ses)),(32,.t (tI a.tot)),(33,.t (.sl 2 (a.known.map Span.enc))),(34,.t (.str a.data))]=Af g {s with rcv:=a}:=by kernel_rfl
theorem XJ (k:Bool) (t:Int):upd (Af g s) [(36,.t (.bool k)),(37,.t (tI t))]=Af g {s with rcvd:=k,arrive:=t}:=by kernel_rfl
theorem Jb (a:Snd) (w:Nat) (o:List Out):upd (Af g s) [(16,.t (tI a.c.frm)),(17,.t (tI a.c.dst)),(18,.t (tI a.c.start)),(19,.t (tI a.c.fin)),(20,.t (tI a.c.rate)),(21,.t (tI a.c.rng)),(22,.t (tI a.c.loss)),(23,.t (tI a.ses)),(24,.t (.str a.data)),(25,.t (tI a.fin)),(26,.t (tI a.busy)),(27,.t (tI a.ser)),(28,.t (.sl 2 (a.acked.map Span.enc))),(29,.t (tI a.due)),(30,.t (tI a.st)),(35,.sref 1 w 0 (s.pend.length+o.length))]=Af {g with v0:=w,pre:=[]} {s with snd:=a,pend:=s.pend++o}:=by rw [← length_append];kernel_rfl
theorem MQ (a:Snd) (w:Nat) (o:List Out) (k:Bool) (t:Int):upd (Af g s) [(16,.t (tI a.c.frm)),(17,.t (tI a.c.dst)),(18,.t (tI a.c.start)),(19,.t (tI a.c.fin)),(20,.t (tI a.c.rate)),(21,.t (tI a.c.rng)),(22,.t (tI a.c.loss)),(23,.t (tI a.ses)),(24,.t (.str a.data)),(25,.t (tI a.fin)),(26,.t (tI a.busy)),(27,.t (tI a.ser)),(28,.t (.sl 2 (a.acked.map Span.enc))),(29,.t (tI a.due)),(30,.t (tI a.st)),(35,.sref 1 w 0 (s.pend.length+o.length)),(38,.t (.bool k)),(39,.t (tI t))]=Af {g with v0:=w,pre:=[]} {s with snd:=a,pend:=s.pend++o,kno:=k,knoAt:=t}:=by rw [← length_append];kernel_rfl
theorem ucP_26 (x:Out) (l:List Out) (hp:s.pend=x::l):upd (Af g s) [(35,.sref 1 g.v0 (g.pre.length+1) (s.pend.length-1))]=Af {g with pre:=g.pre++[x.enc]} {s with pend:=l}:=by rw [show s.pend.length-1=l.length by rw [hp];rfl,show g.pre.length+1=(g.pre++[x.enc]).length by simp];kernel_rfl
theorem Jf (a b d:Int) (fs:List Frame) (e:Int) (w:Nat) (x:Out):upd (Af g s) [(0,.t (tI a)),(1,.t (.sl 10 (fs.map Frame.enc))),(2,.t (tI b)),(3,.t (tI d)),(11,.t (tI e)),(13,.sref 5 w 0 (s.sent.length+1))]=Af {g with v4:=w} {s with dat:=⟨a,fs,b,d⟩,entered:=e,sent:=s.sent++[x]}:=by rw [show s.sent.length+1=(s.sent++[x]).length by simp];kernel_rfl
theorem L7 (a b d:Int) (fs:List Frame) (e u:Int) (w:Nat) (x:Out):upd (Af g s) [(0,.t (tI a)),(1,.t (.sl 10 (fs.map Frame.enc))),(2,.t (tI b)),(3,.t (tI d)),(11,.t (tI e)),(12,.t (tI u)),(13,.sref 5 w 0 (s.sent.length+1))]=Af {g with v4:=w} {s with dat:=⟨a,fs,b,d⟩,entered:=e,dist:=u,sent:=s.sent++[x]}:=by rw [show s.sent.length+1=(s.sent++[x]).length by simp];kernel_rfl
theorem Jd (a b d:Int) (fs:List Frame) (e:Int) (w:Nat) (x:Out):upd (Af g s) [(4,.t (tI a)),(5,.t (.sl 10 (fs.map Frame.enc))),(6,.t (tI b)),(7,.t (tI d)),(11,.t (tI e)),(14,.sref 6 w 0 (s.told.length+1))]=Af {g with v5:=w} {s with rep:=⟨a,fs,b,d⟩,entered:=e,told:=s.told++[x]}:=by rw [show s.told.length+1=(s.told++[x]).length by simp];kernel_rfl
theorem L5 (a b d:Int) (fs:List Frame) (e u:Int) (w:Nat) (x:Out):upd (Af g s) [(4,.t (tI a)),(5,.t (.sl 10 (fs.map Frame.enc))),(6,.t (tI b)),(7,.t (tI d)),(11,.t (tI e)),(12,.t (tI u)),(14,.sref 6 w 0 (s.told.length+1))]=Af {g with v5:=w} {s with rep:=⟨a,fs,b,d⟩,entered:=e,dist:=u,told:=s.told++[x]}:=by rw [show s.told.length+1=(s.told++[x]).length by simp];kernel_rfl
theorem BE:type_of% (And.intro @rd26 (And.intro @Xp (And.intro @Xt (And.intro @Xr (And.intro @Xn (And.intro @Xl (And.intro @U7 (And.intro @U5 (And.intro @U3 (And.intro @U1 (And.intro @Uz (And.intro @Ux (And.intro @Xi (And.intro @Xg (And.intro @Xe (And.intro @Uv (And.intro @Up (And.intro @Ur (And.intro @Un (And.intro @Ut (And.intro @RK (And.intro @Q6 (And.intro @Oa (And.intro @W7 (And.intro @UT (And.intro @UR (And.intro @UP (And.intro @W5 (And.intro @UJ (And.intro @UN (And.intro @UL (And.intro @Xy (And.intro @XH (And.intro @XD (And.intro @XF (And.intro @UY (And.intro @XB (And.intro @UW (And.intro @W9 (And.intro @XJ (And.intro @Jb @MQ))))))))))))))))))))))))))))))))))))))))):=(And.intro @rd26 (And.intro @Xp (And.intro @Xt (And.intro @Xr (And.intro @Xn (And.intro @Xl (And.intro @U7 (And.intro @U5 (And.intro @U3 (And.intro @U1 (And.intro @Uz (And.intro @Ux (And.intro @Xi (And.intro @Xg (And.intro @Xe (And.intro @Uv (And.intro @Up (And.intro @Ur (And.intro @Un (And.intro @Ut (And.intro @RK (And.intro @Q6 (And.intro @Oa (And.intro @W7 (And.intro @UT (And.intro @UR (And.intro @UP (And.intro @W5 (And.intro @UJ (And.intro @UN (And.intro @UL (And.intro @Xy (And.intro @XH (And.intro @XD (And.intro @XF (And.intro @UY (And.intro @XB (And.intro @UW (And.intro @W9 (And.intro @XJ (And.intro @Jb @MQ)))))))))))))))))))))))))))))))))))))))))
end Ab
set_option linter.unusedVariables false
set_option linter.unusedSimpArgs false
set_option maxRecDepth 100000
namespace Ab
open Go
theorem entD_26 (g:Gh) (s:Ses) (x:Seg) (f1 f2 f3:AF) (hc:EOk s s.dat) :
  Ev fun n=>∀again,Zf n (fI C n) again ([.ptr 7 0,.ptr 7 0,.t (tI 0),.t (tI s.now),.agg (BH x)],H26 f1 f2 f3 g s [])=again ([],H26 E0 E0 E0 {g with v4:=g.v4+1} (Cs s x) []):=by
 have q1:¬(10000:Int)≤s.entered:=by have:=hc.ent;omega
 have q2:w64 (s.entered+1)=s.entered+1:=by have:=hc.ent;exact Ad (by omega) (by omega)
 have q3:w64 (s.dist+1)=s.dist+1:=by have:=hc.dst;exact Ad (by omega) (by omega)
 have q4:s.sent.length+1≤1073741824:=by have:=hc.sl;omega
 have q5:take s.sent.length (List.map Out.enc s.sent)=List.map Out.enc s.sent:=take_of_length_le (by simp);have key:=fun (ds:List Int) (hd:∀d∈ds,s.dat.rng≤d∧d≤2*s.dat.rng) (hl:ds.length≤2)=>s156 s.dat hc.gc s.now x hc.now ds hd (by have:=hc.len;omega);have kR:∀d∈[s.dat.rng],s.dat.rng≤d∧d≤2*s.dat.rng:=by have:=hc.gc.rng;simp;omega
 simp only [BY.enc,cons_append,nil_append] at key;by_cases h0:J8 s.dark s.now=true
 ·rw [E3 s x [] s.dist (by simp [B7,h0])];refine ((GJ s.dark s.now).and (key [] (by simp) (by simp))).mono fun n h again => ?_;obtain ⟨h1,h2⟩:=h;simp only [map_nil] at h2;simp only [H26,GX,H4,BH,BE,vv2,vf,reduceCtorEq,reduceAdd,reduceEqDiff,h1,h0,h2,AO,AK,q1,q2,q3,q4,q5,bne_self_eq_false,le_refl,Jf (x:=⟨s.now,x⟩),map_append,map_cons,map_nil,Out.enc]
 ·have h0:J8 s.dark s.now=false:=by simpa using h0
  by_cases h5:s.picks=[]
  ·rw [E3 s x [s.dat.rng] s.dist (by simp [B7,h0,h5])];refine ((GJ s.dark s.now).and (key [s.dat.rng] kR (by simp))).mono fun n h again => ?_;obtain ⟨h1,h2⟩:=h;simp only [map_cons,map_nil,Bh] at h2;have h5':(s.picks.length:Int)=0:=by simp [h5]
   simp only [H26,GX,H4,BH,BE,vv2,vf,reduceCtorEq,reduceAdd,reduceEqDiff,h1,h0,h2,h5',beq_self_eq_true,AO,AK,q1,q2,q3,q4,q5,bne_self_eq_false,le_refl,Jf (x:=⟨s.now,x⟩),map_append,map_cons,map_nil,Out.enc]
  ·have hpos:=length_pos_iff.2 h5;have h6:¬(s.picks.length:Int)=0:=by omega
   have h6':((s.picks.length:Int)==0)=false:=by simpa using h6
   have hm1:=emod_nonneg s.entered h6;have hm2:=emod_lt_of_pos s.entered (show (0:Int)<s.picks.length by omega);have hm:tmod s.entered s.picks.length=s.entered % s.picks.length:=Int.tmod_eq_emod_of_nonneg hc.ent.1;obtain ⟨p,hp⟩:∃p,s.picks[(s.entered % s.picks.length).toNat]? = some p:=⟨_,getElem?_eq_getElem (by omega)⟩
   have hg:s.picks.getD (s.entered % s.picks.length).toNat 0=p:=by rw [getD_eq_getElem?_getD,hp];rfl
   have hpk:=hc.pk p (mem_of_getElem? hp);have hrg:=hc.gc.rng;have k176:=s176 p s.dat.rng hpk hrg;have kf:=key (BL p s.dat.rng) (fun d hd=>GO hrg.1 hd) (GP _ _);have kr:=key [s.dat.rng] kR (by simp);have c1:∀z:Int×List (List Tree),True:=fun _=>trivial;by_cases h7:(BL p s.dat.rng).head? = some s.dat.rng
   ·rw [E3 s x (BL p s.dat.rng) s.dist (by simp only [B7,h0,h5,hg,h7,if_true,if_false,false_eq_true])];obtain ⟨l,hl⟩:∃l,BL p s.dat.rng=s.dat.rng::l:=by
     cases hf:BL p s.dat.rng with
     |nil=>rw [hf] at h7;cases h7
     |cons a l=>rw [hf] at h7;cases h7;exact ⟨l,rfl⟩
    rw [hl] at kf k176 ⊢;refine ((GJ s.dark s.now).and (k176.and kf)).mono fun n h again => ?_;obtain ⟨h1,h2,h3⟩:=h;simp only [map_cons,Bh] at h2 h3;simp only [H26,GX,H4,Dv,ID,Dv,IB,BH,BE,vv2,vf,reduceCtorEq,reduceAdd,reduceEqDiff,h1,h0,h2,h3,h6,h6',hm,hm1,hp,map_cons,Bh,getElem?_cons_zero,(show (0:Int)<((l.length+1:Nat):Int) by omega),beq_self_eq_true,AO,AK,q1,q2,q3,q4,q5,bne_self_eq_false,le_refl,Jf (x:=⟨s.now,x⟩),map_append,map_nil,Out.enc]
   ·have h8:∀y:Int,((BL p s.dat.rng).map Bh)[0]? = some [tI y]→(y==s.dat.rng)=false:=by
     intro y hy;cases hf:BL p s.dat.rng with
     |nil=>rw [hf] at hy;cases hy
     |cons a l=>
      rw [hf] at hy h7;cases hy;simp at h7;simpa using h7
    have k8:(BL p s.dat.rng).length=0∨∃y,0<(BL p s.dat.rng).length∧((BL p s.dat.rng).map Bh)[0]? = some [tI y]∧(y==s.dat.rng)=false:=by
     cases hf:BL p s.dat.rng with
     |nil=>exact .inl rfl
     |cons a l=>exact .inr ⟨a,by simp,rfl,h8 a (by rw [hf];rfl)⟩
    by_cases h9:0≤s.limit∧s.limit≤s.dist
    ·rw [E3 s x [s.dat.rng] s.dist (by simp only [B7,h0,h5,hg,h7,h9,if_true,if_false,false_eq_true,and_self])];refine ((GJ s.dark s.now).and (k176.and kr)).mono fun n h again => ?_;obtain ⟨h1,h2,h3⟩:=h;simp only [map_cons,map_nil,Bh] at h3;rcases k8 with k8|⟨y,k8,k9,k10⟩
     ·simp only [H26,GX,H4,Dv,ID,Dv,IB,BH,BE,vv2,vf,reduceCtorEq,reduceAdd,reduceEqDiff,h1,h0,h2,h3,h6,h6',hm,hm1,hp,map_cons,Bh,k8,natCast_zero,lt_irrefl,h9,beq_self_eq_true,AO,AK,q1,q2,q3,q4,q5,bne_self_eq_false,le_refl,Jf (x:=⟨s.now,x⟩),map_append,map_nil,Out.enc]
     ·simp only [H26,GX,H4,Dv,ID,Dv,IB,BH,BE,vv2,vf,reduceCtorEq,reduceAdd,reduceEqDiff,h1,h0,h2,h3,h6,h6',hm,hm1,hp,map_cons,Bh,(show (0:Int)<((BL p s.dat.rng).length:Int) by omega),k9,k10,h9,beq_self_eq_true,AO,AK,q1,q2,q3,q4,q5,bne_self_eq_false,le_refl,Jf (x:=⟨s.now,x⟩),map_append,map_nil,Out.enc]
    ·rw [E3 s x (BL p s.dat.rng) (s.dist+1) (by simp only [B7,h0,h5,hg,h7,h9,if_true,if_false,false_eq_true,and_self])];refine ((GJ s.dark s.now).and (k176.and kf)).mono fun n h again => ?_;obtain ⟨h1,h2,h3⟩:=h;have h9':(0≤s.limit→¬s.limit≤s.dist):=fun a b=>h9 ⟨a,b⟩;by_cases h10:0≤s.limit
     ·have h11:=h9' h10;rcases k8 with k8|⟨y,k8,k9,k10⟩
      ·simp only [H26,GX,H4,Dv,ID,Dv,IB,BH,BE,vv2,vf,reduceCtorEq,reduceAdd,reduceEqDiff,h1,h0,h2,h3,h6,h6',hm,hm1,hp,map_cons,Bh,k8,natCast_zero,lt_irrefl,h10,h11,beq_self_eq_true,AO,AK,q1,q2,q3,q4,q5,bne_self_eq_false,le_refl,L7 (x:=⟨s.now,x⟩),map_append,map_nil,Out.enc]
      ·simp only [H26,GX,H4,Dv,ID,Dv,IB,BH,BE,vv2,vf,reduceCtorEq,reduceAdd,reduceEqDiff,h1,h0,h2,h3,h6,h6',hm,hm1,hp,map_cons,Bh,(show (0:Int)<((BL p s.dat.rng).length:Int) by omega),k9,k10,h10,h11,beq_self_eq_true,AO,AK,q1,q2,q3,q4,q5,bne_self_eq_false,le_refl,L7 (x:=⟨s.now,x⟩),map_append,map_nil,Out.enc]
     ·rcases k8 with k8|⟨y,k8,k9,k10⟩
      ·simp only [H26,GX,H4,Dv,ID,Dv,IB,BH,BE,vv2,vf,reduceCtorEq,reduceAdd,reduceEqDiff,h1,h0,h2,h3,h6,h6',hm,hm1,hp,map_cons,Bh,k8,natCast_zero,lt_irrefl,h10,beq_self_eq_true,AO,AK,q1,q2,q3,q4,q5,bne_self_eq_false,le_refl,L7 (x:=⟨s.now,x⟩),map_append,map_nil,Out.enc]
      ·simp only [H26,GX,H4,Dv,ID,Dv,IB,BH,BE,vv2,vf,reduceCtorEq,reduceAdd,reduceEqDiff,h1,h0,h2,h3,h6,h6',hm,hm1,hp,map_cons,Bh,(show (0:Int)<((BL p s.dat.rng).length:Int) by omega),k9,k10,h10,beq_self_eq_true,AO,AK,q1,q2,q3,q4,q5,bne_self_eq_false,le_refl,L7 (x:=⟨s.now,x⟩),map_append,map_nil,Out.enc]
theorem entR_26 (g:Gh) (s:Ses) (x:Seg) (f1 f2 f3:AF) (hc:EOk s s.rep) (v8:Nat) (e8:List (List Tree)) (a b:Int) (ks:List (List Tree)) (bd:ByteArray) (y:Seg) :
  Ev fun n=>∀again,Zh n (fI C n) again ([.ptr 7 0,.ptr 7 4,.t (tI 1),.t (tI s.now),.agg (BH x)],H26 f1 f2 f3 g s [.row false v8 8 e8,.box [.t (tI a),.t (tI b),.t (.sl 2 ks),.t (.str bd)],.box (BH y)])=again ([],H26 E0 E0 E0 {g with v5:=g.v5+1} (Cv s x) [.row false v8 8 e8,.box [.t (tI a),.t (tI b),.t (.sl 2 ks),.t (.str bd)],.box (BH y)]):=by
 have q1:¬(10000:Int)≤s.entered:=by have:=hc.ent;omega
 have q2:w64 (s.entered+1)=s.entered+1:=by have:=hc.ent;exact Ad (by omega) (by omega)
 have q3:w64 (s.dist+1)=s.dist+1:=by have:=hc.dst;exact Ad (by omega) (by omega)
 have q4:s.told.length+1≤1073741824:=by have:=hc.sl;omega
 have q5:take s.told.length (List.map Out.enc s.told)=List.map Out.enc s.told:=take_of_length_le (by simp);have key:=fun (ds:List Int) (hd:∀d∈ds,s.rep.rng≤d∧d≤2*s.rep.rng) (hl:ds.length≤2)=>s156 s.rep hc.gc s.now x hc.now ds hd (by have:=hc.len;omega);have kR:∀d∈[s.rep.rng],s.rep.rng≤d∧d≤2*s.rep.rng:=by have:=hc.gc.rng;simp;omega
 simp only [BY.enc,cons_append,nil_append] at key;by_cases h0:J8 s.dark s.now=true
 ·rw [E2 s x [] s.dist (by simp [B7,h0])];refine ((GJ s.dark s.now).and (key [] (by simp) (by simp))).mono fun n h again => ?_;obtain ⟨h1,h2⟩:=h;simp only [map_nil] at h2;simp only [H26,GY,H5,BH,BE,vv2,vf,reduceCtorEq,reduceAdd,reduceEqDiff,h1,h0,h2,AO,AK,q1,q2,q3,q4,q5,bne_self_eq_false,le_refl,Jd (x:=⟨s.now,x⟩),map_append,map_cons,map_nil,Out.enc]
 ·have h0:J8 s.dark s.now=false:=by simpa using h0
  by_cases h5:s.picks=[]
  ·rw [E2 s x [s.rep.rng] s.dist (by simp [B7,h0,h5])];refine ((GJ s.dark s.now).and (key [s.rep.rng] kR (by simp))).mono fun n h again => ?_;obtain ⟨h1,h2⟩:=h;simp only [map_cons,map_nil,Bh] at h2;have h5':(s.picks.length:Int)=0:=by simp [h5]
   simp only [H26,GY,H5,BH,BE,vv2,vf,reduceCtorEq,reduceAdd,reduceEqDiff,h1,h0,h2,h5',beq_self_eq_true,AO,AK,q1,q2,q3,q4,q5,bne_self_eq_false,le_refl,Jd (x:=⟨s.now,x⟩),map_append,map_cons,map_nil,Out.enc]
  ·have hpos:=length_pos_iff.2 h5;have h6:¬(s.picks.length:Int)=0:=by omega
   have h6':((s.picks.length:Int)==0)=false:=by simpa using h6
   have hm1:=emod_nonneg s.entered h6;have hm2:=emod_lt_of_pos s.entered (show (0:Int)<s.picks.length by omega);have hm:tmod s.entered s.picks.length=s.entered % s.picks.length:=Int.tmod_eq_emod_of_nonneg hc.ent.1;obtain ⟨p,hp⟩:∃p,s.picks[(s.entered % s.picks.length).toNat]? = some p:=⟨_,getElem?_eq_getElem (by omega)⟩
   have hg:s.picks.getD (s.entered % s.picks.length).toNat 0=p:=by rw [getD_eq_getElem?_getD,hp];rfl
   have hpk:=hc.pk p (mem_of_getElem? hp);have hrg:=hc.gc.rng;have k176:=s176 p s.rep.rng hpk hrg;have kf:=key (BL p s.rep.rng) (fun d hd=>GO hrg.1 hd) (GP _ _);have kr:=key [s.rep.rng] kR (by simp);have c1:∀z:Int×List (List Tree),True:=fun _=>trivial;by_cases h7:(BL p s.rep.rng).head? = some s.rep.rng
   ·rw [E2 s x (BL p s.rep.rng) s.dist (by simp only [B7,h0,h5,hg,h7,if_true,if_false,false_eq_true])];obtain ⟨l,hl⟩:∃l,BL p s.rep.rng=s.rep.rng::l:=by
     cases hf:BL p s.rep.rng with
     |nil=>rw [hf] at h7;cases h7
     |cons a l=>rw [hf] at h7;cases h7;exact ⟨l,rfl⟩
    rw [hl] at kf k176 ⊢;refine ((GJ s.dark s.now).and (k176.and kf)).mono fun n h again => ?_;obtain ⟨h1,h2,h3⟩:=h;simp only [map_cons,Bh] at h2 h3;simp only [H26,GY,H5,Dw,IF,Dw,IE,BH,BE,vv2,vf,reduceCtorEq,reduceAdd,reduceEqDiff,h1,h0,h2,h3,h6,h6',hm,hm1,hp,map_cons,Bh,getElem?_cons_zero,(show (0:Int)<((l.length+1:Nat):Int) by omega),beq_self_eq_true,AO,AK,q1,q2,q3,q4,q5,bne_self_eq_false,le_refl,Jd (x:=⟨s.now,x⟩),map_append,map_nil,Out.enc]
   ·have h8:∀y:Int,((BL p s.rep.rng).map Bh)[0]? = some [tI y]→(y==s.rep.rng)=false:=by
     intro y hy;cases hf:BL p s.rep.rng with
     |nil=>rw [hf] at hy;cases hy
     |cons a l=>
      rw [hf] at hy h7;cases hy;simp at h7;simpa using h7
    have k8:(BL p s.rep.rng).length=0∨∃y,0<(BL p s.rep.rng).length∧((BL p s.rep.rng).map Bh)[0]? = some [tI y]∧(y==s.rep.rng)=false:=by
     cases hf:BL p s.rep.rng with
     |nil=>exact .inl rfl
     |cons a l=>exact .inr ⟨a,by simp,rfl,h8 a (by rw [hf];rfl)⟩
    by_cases h9:0≤s.limit∧s.limit≤s.dist
    ·rw [E2 s x [s.rep.rng] s.dist (by simp only [B7,h0,h5,hg,h7,h9,if_true,if_false,false_eq_true,and_self])];refine ((GJ s.dark s.now).and (k176.and kr)).mono fun n h again => ?_;obtain ⟨h1,h2,h3⟩:=h;simp only [map_cons,map_nil,Bh] at h3;rcases k8 with k8|⟨y,k8,k9,k10⟩
     ·simp only [H26,GY,H5,Dw,IF,Dw,IE,BH,BE,vv2,vf,reduceCtorEq,reduceAdd,reduceEqDiff,h1,h0,h2,h3,h6,h6',hm,hm1,hp,map_cons,Bh,k8,natCast_zero,lt_irrefl,h9,beq_self_eq_true,AO,AK,q1,q2,q3,q4,q5,bne_self_eq_false,le_refl,Jd (x:=⟨s.now,x⟩),map_append,map_nil,Out.enc]
     ·simp only [H26,GY,H5,Dw,IF,Dw,IE,BH,BE,vv2,vf,reduceCtorEq,reduceAdd,reduceEqDiff,h1,h0,h2,h3,h6,h6',hm,hm1,hp,map_cons,Bh,(show (0:Int)<((BL p s.rep.rng).length:Int) by omega),k9,k10,h9,beq_self_eq_true,AO,AK,q1,q2,q3,q4,q5,bne_self_eq_false,le_refl,Jd (x:=⟨s.now,x⟩),map_append,map_nil,Out.enc]
    ·rw [E2 s x (BL p s.rep.rng) (s.dist+1) (by simp only [B7,h0,h5,hg,h7,h9,if_true,if_false,false_eq_true,and_self])];refine ((GJ s.dark s.now).and (k176.and kf)).mono fun n h again => ?_;obtain ⟨h1,h2,h3⟩:=h;have h9':(0≤s.limit→¬s.limit≤s.dist):=fun a b=>h9 ⟨a,b⟩;by_cases h10:0≤s.limit
     ·have h11:=h9' h10;rcases k8 with k8|⟨y,k8,k9,k10⟩
      ·simp only [H26,GY,H5,Dw,IF,Dw,IE,BH,BE,vv2,vf,reduceCtorEq,reduceAdd,reduceEqDiff,h1,h0,h2,h3,h6,h6',hm,hm1,hp,map_cons,Bh,k8,natCast_zero,lt_irrefl,h10,h11,beq_self_eq_true,AO,AK,q1,q2,q3,q4,q5,bne_self_eq_false,le_refl,L5 (x:=⟨s.now,x⟩),map_append,map_nil,Out.enc]
      ·simp only [H26,GY,H5,Dw,IF,Dw,IE,BH,BE,vv2,vf,reduceCtorEq,reduceAdd,reduceEqDiff,h1,h0,h2,h3,h6,h6',hm,hm1,hp,map_cons,Bh,(show (0:Int)<((BL p s.rep.rng).length:Int) by omega),k9,k10,h10,h11,beq_self_eq_true,AO,AK,q1,q2,q3,q4,q5,bne_self_eq_false,le_refl,L5 (x:=⟨s.now,x⟩),map_append,map_nil,Out.enc]
     ·rcases k8 with k8|⟨y,k8,k9,k10⟩
      ·simp only [H26,GY,H5,Dw,IF,Dw,IE,BH,BE,vv2,vf,reduceCtorEq,reduceAdd,reduceEqDiff,h1,h0,h2,h3,h6,h6',hm,hm1,hp,map_cons,Bh,k8,natCast_zero,lt_irrefl,h10,beq_self_eq_true,AO,AK,q1,q2,q3,q4,q5,bne_self_eq_false,le_refl,L5 (x:=⟨s.now,x⟩),map_append,map_nil,Out.enc]
      ·simp only [H26,GY,H5,Dw,IF,Dw,IE,BH,BE,vv2,vf,reduceCtorEq,reduceAdd,reduceEqDiff,h1,h0,h2,h3,h6,h6',hm,hm1,hp,map_cons,Bh,(show (0:Int)<((BL p s.rep.rng).length:Int) by omega),k9,k10,h10,beq_self_eq_true,AO,AK,q1,q2,q3,q4,q5,bne_self_eq_false,le_refl,L5 (x:=⟨s.now,x⟩),map_append,map_nil,Out.enc]
end Ab
set_option linter.unusedVariables false
set_option linter.unusedSimpArgs false
set_option maxRecDepth 100000
namespace Ab
open Go
theorem nx2_26 (n:Nat) (again:List AV×Heap→Option (List Tree)) (g:Gh) (s:Ses) (e:List AV) (o:Option Int) :
  ZQ n (fI C n) again (e,H26 E0 E0 E0 g s (boO o))=again (CP o,H26 E0 E0 E0 g s []):=by
 cases o<;>simp only [ZQ,boO,CP,H26,BE,vv2,vf,reduceCtorEq,reduceAdd,reduceEqDiff,getD_none,Option.getD_some,isSome_none,isSome_some]
theorem nx3_26 (n:Nat) (again:List AV×Heap→Option (List Tree)) (g:Gh) (s:Ses) (e:List AV) (o:Option Int) (tl:Heap) (w:Bool) :
  N8 n (fI C n) (e,H26 E0 E0 E0 g s tl) again ([.t (.bool w)],H26 E0 E0 E0 g s (boO o))=again (CP (CH o (if w=true then some s.snd.due else none)),H26 E0 E0 E0 g s []):=by
 have k:=nx2_26 n again g s [];cases w
 ·cases o with
  |none=>
   have k:=k none;simp only [boO,getD_none,isSome_none,H26] at k;simp only [N8,boO,H26,BE,vv2,vf,reduceCtorEq,reduceAdd,reduceEqDiff,getD_none,Option.getD_some,isSome_none,isSome_some,AO,k,CH]
  |some a=>
   have k:=k (some a);simp only [boO,Option.getD_some,isSome_some,H26] at k;simp only [N8,boO,H26,BE,vv2,vf,reduceCtorEq,reduceAdd,reduceEqDiff,getD_none,Option.getD_some,isSome_none,isSome_some,AO,k,CH]
 ·cases o with
  |none=>
   have k:=k (some s.snd.due);simp only [boO,Option.getD_some,isSome_some,H26] at k;simp only [N8,boO,H26,BE,vv2,vf,reduceCtorEq,reduceAdd,reduceEqDiff,getD_none,Option.getD_some,isSome_none,isSome_some,AO,k,CH]
  |some a=>
   by_cases hq:s.snd.due<a
   ·have k:=k (some s.snd.due);simp only [boO,Option.getD_some,isSome_some,H26] at k;simp only [N8,boO,H26,BE,vv2,vf,reduceCtorEq,reduceAdd,reduceEqDiff,getD_none,Option.getD_some,isSome_none,isSome_some,AO,k,CH,hq]
   ·have k:=k (some a);simp only [boO,Option.getD_some,isSome_some,H26] at k;simp only [N8,boO,H26,BE,vv2,vf,reduceCtorEq,reduceAdd,reduceEqDiff,getD_none,Option.getD_some,isSome_none,isSome_some,AO,k,CH,hq]
theorem nx4_26 (n:Nat) (again:List AV×Heap→Option (List Tree)) (g:Gh) (s:Ses) (e:List AV) (o:Option Int) (he:s.entered<10000) :
  Vr n (fI C n) again (e,H26 E0 E0 E0 g s (boO o))=again (CP (CH o (if s.snd.st=1 then some s.snd.due else none)),H26 E0 E0 E0 g s []):=by
 have q:¬(10000:Int)≤s.entered:=by omega
 have k:=nx3_26 n again g s e o (boO o);by_cases h:s.snd.st=1
 ·have k:=k true;simp only [boO,H26] at k;simp only [Vr,boO,H26,BE,vv2,vf,reduceCtorEq,reduceAdd,reduceEqDiff,h,beq_self_eq_true,q,k]
 ·have k:=k false;have h':(s.snd.st==1)=false:=by simpa using h
  simp only [boO,H26] at k;simp only [Vr,boO,H26,BE,vv2,vf,reduceCtorEq,reduceAdd,reduceEqDiff,h,h',k]
theorem nx5_26 (g:Gh) (s:Ses) (e:List AV) (o:Option Int) (he:s.entered<10000) (hr:Bz s.rep) :
  Ev fun n=>∀again,PY n (fI C n) again (e,H26 E0 E0 E0 g s (boO o))=again (CP (CH (CH o (Ay s.rep)) (if s.snd.st=1 then some s.snd.due else none)),H26 E0 E0 E0 g s []):=by
 refine (Dk s.rep hr).mono fun n h again => ?_;have k:=fun o=>nx4_26 n again g s [] o he;simp only [BY.enc] at h;cases hn:Ay s.rep with
 |none=>
  have k:=k o;rw [hn] at h;simp only [DH] at h;simp only [boO,H26] at k;simp only [PY,boO,H26,BE,vv2,vf,reduceCtorEq,reduceAdd,reduceEqDiff,h,k];cases o<;>rfl
 |some a=>
  rw [hn] at h;simp only [DH] at h;cases o with
  |none=>
   have k:=k (some a);simp only [boO,H26,Option.getD_some,isSome_some] at k;simp only [PY,boO,H26,BE,vv2,vf,reduceCtorEq,reduceAdd,reduceEqDiff,getD_none,isSome_none,h,k,CH]
  |some b=>
   by_cases hq:a<b
   ·have k:=k (some a);simp only [boO,H26,Option.getD_some,isSome_some] at k;simp only [PY,boO,H26,BE,vv2,vf,reduceCtorEq,reduceAdd,reduceEqDiff,Option.getD_some,isSome_some,h,k,CH,hq]
   ·have k:=k (some b);simp only [boO,H26,Option.getD_some,isSome_some] at k;simp only [PY,boO,H26,BE,vv2,vf,reduceCtorEq,reduceAdd,reduceEqDiff,Option.getD_some,isSome_some,h,k,CH,hq]
theorem nx6_26 (g:Gh) (s:Ses) (e:List AV) (o:Option Int) (he:s.entered<10000) (hd:Bz s.dat) (hr:Bz s.rep) :
  Ev fun n=>∀again,PX n (fI C n) again (e,H26 E0 E0 E0 g s (boO o))=again (CP (CH (CH (CH o (Ay s.dat)) (Ay s.rep)) (if s.snd.st=1 then some s.snd.due else none)),H26 E0 E0 E0 g s []):=by
 have key:=fun o=>nx5_26 g s [] o he hr;cases hn:Ay s.dat with
 |none=>
  refine ((Dk s.dat hd).and (key o)).mono fun n h again => ?_;obtain ⟨h,k⟩:=h;have k:=k again;simp only [BY.enc,hn,DH] at h;simp only [boO,H26] at k;simp only [PX,boO,H26,BE,vv2,vf,reduceCtorEq,reduceAdd,reduceEqDiff,h,k];cases o<;>rfl
 |some a=>
  cases o with
  |none=>
   refine ((Dk s.dat hd).and (key (some a))).mono fun n h again => ?_;obtain ⟨h,k⟩:=h;have k:=k again;simp only [BY.enc,hn,DH] at h;simp only [boO,H26,Option.getD_some,isSome_some] at k;simp only [PX,boO,H26,BE,vv2,vf,reduceCtorEq,reduceAdd,reduceEqDiff,getD_none,isSome_none,h,k,CH]
  |some b=>
   by_cases hq:a<b
   ·refine ((Dk s.dat hd).and (key (some a))).mono fun n h again => ?_;obtain ⟨h,k⟩:=h;have k:=k again;simp only [BY.enc,hn,DH] at h;simp only [boO,H26,Option.getD_some,isSome_some] at k;simp only [PX,boO,H26,BE,vv2,vf,reduceCtorEq,reduceAdd,reduceEqDiff,Option.getD_some,isSome_some,h,k,CH,hq]
   ·refine ((Dk s.dat hd).and (key (some b))).mono fun n h again => ?_;obtain ⟨h,k⟩:=h;have k:=k again;simp only [BY.enc,hn,DH] at h;simp only [boO,H26,Option.getD_some,isSome_some] at k;simp only [PX,boO,H26,BE,vv2,vf,reduceCtorEq,reduceAdd,reduceEqDiff,Option.getD_some,isSome_some,h,k,CH,hq]
theorem nx_26 (g:Gh) (s:Ses) (f1 f2 f3:AF) (he:s.entered<10000) (hd:Bz s.dat) (hr:Bz s.rep) :
  Ev fun n=>∀again,Vx n (fI C n) again ([.ptr 7 0],H26 f1 f2 f3 g s [])=again (CP (nxS s),H26 E0 E0 E0 g s []):=by
 have q:¬(10000:Int)≤s.entered:=by omega
 have key:=nx6_26 g s [] (s.pend.head?.map (·.at_)) he hd hr;refine key.mono fun n k again => ?_;have k:=k again;have e1:∀(o:Out) (l:List Out),s.pend=o::l→(g.pre++List.map Out.enc s.pend)[g.pre.length]? = some o.enc:=by intro o l h;rw [getElem?_append_right (le_refl _),h];simp
 unfold nxS;cases hp:s.pend with
 |nil=>
  simp only [hp,head?_nil,map_none,boO,H26,getD_none,isSome_none,map_nil] at k;simp only [XQ,Vi,ZM,H26,hp,map_nil,BE,vv2,vf,reduceCtorEq,reduceAdd,reduceEqDiff,q,lt_irrefl,natCast_zero,k,head?_nil,map_none]
 |cons o l=>
  have e1:=e1 o l hp;simp only [hp] at e1;simp only [hp,head?_cons,map_some,boO,H26,Option.getD_some,isSome_some] at k;simp only [XQ,Vi,ZM,J26_1,H26,hp,BE,vv2,vf,reduceCtorEq,reduceAdd,reduceEqDiff,q,(show (0:Int)<((l.length+1:Nat):Int) by omega),e1,Out.enc,k,head?_cons,map_some,Int.le_refl]
end Ab
set_option linter.unusedVariables false
set_option linter.unusedSimpArgs false
set_option maxRecDepth 100000
namespace Ab
open Go
theorem ex_26 (g:Gh) (s:Ses) (f1 f2 f3:AF) (he:s.entered<10000) (ha:s.snd.acked.length≤100) (hl:s.pend.length≤1000000)
  (hw:s.snd.st=1→s.snd.due=s.now→(Co s.snd s.now).2.2=0∧(Co s.snd s.now).2.1.length≤1000000) :
  Ev fun n=>∀again,Zj n (fI C n) again ([.ptr 7 0],H26 f1 f2 f3 g s [])=again ([],H26 E0 E0 E0 (exG g s) (exS s) []):=by
 have q:¬(10000:Int)≤s.entered:=by omega
 by_cases h1:s.snd.st=1
 ·by_cases h2:s.snd.due=s.now
  ·obtain ⟨w1,w2⟩:=hw h1 h2;have e1:exS s={s with snd:=(Co s.snd s.now).1,pend:=s.pend++(Co s.snd s.now).2.1}:=by simp only [exS,h1,h2,and_self,if_true]
   have e2:exG g s={g with v0:=g.v0+1,pre:=[]}:=by simp only [exG,h1,h2,and_self,if_true]
   rw [e1,e2];refine (s149 s.snd s.now ha).mono fun n h again => ?_;simp only [Dm,w1,Snd.enc,cons_append,nil_append,h1,h2] at h;generalize Co s.snd s.now=w at h w1 w2 ⊢;obtain ⟨a,o,e⟩:=w;simp only at h w1 w2 ⊢;have q2:¬g.pre.length+s.pend.length<g.pre.length+s.pend.length:=by omega
   have q3:s.pend.length+o.length≤1073741824:=by omega
   have q4:take s.pend.length (List.map Out.enc s.pend)=List.map Out.enc s.pend:=take_of_length_le (by simp);simp only [S0,Sm,Vq,Vp,H26,BE,vv2,vf,reduceCtorEq,reduceAdd,reduceEqDiff,h1,h2,h,q,beq_self_eq_true,bne_self_eq_false,length_append,q2,q3,q4,Jb,drop_left,map_append,le_refl,nil_append]
  ·have h2':(s.snd.due != s.now)=true:=by simpa using h2
   have e1:exS s=s:=by simp only [exS,h2,and_false,if_false]
   have e2:exG g s=g:=by simp only [exG,h2,and_false,if_false]
   rw [e1,e2];refine Ev.of fun n again => ?_;simp only [S0,Sm,Vq,Vp,H26,BE,vv2,vf,reduceCtorEq,reduceAdd,reduceEqDiff,h1,h2',q,beq_self_eq_true]
 ·have h1':(s.snd.st==1)=false:=by simpa using h1
  have e1:exS s=s:=by simp only [exS,h1,false_and,if_false]
  have e2:exG g s=g:=by simp only [exG,h1,false_and,if_false]
  rw [e1,e2];refine Ev.of fun n again => ?_;simp only [S0,Sm,Vq,Vp,H26,BE,vv2,vf,reduceCtorEq,reduceAdd,reduceEqDiff,h1']
def Kd (q:Gh×Ses):Rd (Gh×Ses) (Gh×Ses):=
 match q.2.pend with
 |[]=>.done q
 |o::l=>if o.at_=q.2.now then .next ({q.1 with v4:=q.1.v4+1,pre:=q.1.pre++[o.enc]},{Cs q.2 o.seg with pend:=l}) else .done q
theorem tx_26 (g:Gh) (s:Ses) (f1 f2 f3:AF) (hb:Bud s.pend.length s) :
  Ev fun n=>∀again,Ze n (fI C n) again ([.ptr 7 0],H26 f1 f2 f3 g s [])=again ([],H26 E0 E0 E0 (txT s.pend.length (g,s)).1 (txS s.pend.length s) []):=by
 have key:=CF (R:=List Tree) (Z:=List AV×Heap→Option (List Tree)) (Q:=Gh×Ses)
  (B:=fun n z p again=>N3 n (fI C n) ([.ptr 7 0],H26 f1 f2 f3 g s []) z p again)
  (s:=(([],H26 E0 E0 E0 g s []):List AV×Heap)) (r:=txT s.pend.length (g,s))
  (fun z q=>z ([],H26 E0 E0 E0 q.1 q.2 [])) (fun q:Gh×Ses=>(([],H26 E0 E0 E0 q.1 q.2 []):List AV×Heap)) Kd (fun q=>Bud q.2.pend.length q.2) (fun q=>q.2.pend.length) (fun q=>txT q.2.pend.length q) (g,s) rfl hb rfl
  (fun q hI => ?_) (fun q q' hI hs => ?_) (fun q hI => ?_)
 ·refine key.mono fun n h again => ?_;have h:=h again;rw [Ph] at h;simp only [H26] at h;simp only [tC26_7,Y6,H26,BE,h]
 ·obtain ⟨g1,s1⟩:=q;simp only at hI ⊢;have e1:∀(o:Out) (l:List Out),s1.pend=o::l→(g1.pre++List.map Out.enc s1.pend)[g1.pre.length]? = some o.enc:=by intro o l h;rw [getElem?_append_right (le_refl _),h];simp
  cases hp:s1.pend with
  |nil=>
   refine Ev.of fun n z again => ?_;simp only [Kd,N3,Qn,H26,hp,BE,vv2,vf,reduceCtorEq,reduceAdd,reduceEqDiff,natCast_zero,lt_irrefl,Rd.Az,map_nil]
  |cons o l=>
   have e1:=e1 o l hp;by_cases ho:o.at_=s1.now
   ·rw [hp] at hI;have k:=entD_26 g1 s1 o.seg (.row true (AF.ver f1) 15 (Aq f1)) (.row true (AF.ver f2) 4 (Aq f2)) (.row true (AF.ver f3) 4 (Aq f3)) (Bud.eD hI);refine k.mono fun n h z again => ?_;simp only [BH,H26] at h;have h2:=fun again=>h again;have ep:(Cs s1 o.seg).pend=o::l:=hp;have q1:(1:Int)≤((l.length+1:Nat):Int):=by omega
    have q2:=ucP_26 {g1 with v4:=g1.v4+1} (Cs s1 o.seg) o l ep;rw [ep] at q2;simp only [length_cons,Nat.add_sub_cancel] at q2;have e2:(g1.pre++List.map Out.enc (o::l))[g1.pre.length]? = some [tI s1.now,tI o.seg.kind,tI o.seg.ses,tI o.seg.ser,tI o.seg.off,tI o.seg.tot,.bool o.seg.chk,.str o.seg.data,.sl 2 (o.seg.AS.map Span.enc)]:=by rw [hp] at e1;rw [e1,← ho];rfl
    simp only [ep,hp] at h2;simp only [Kd,N3,Qn,ZP,H26,hp,ep,ho,BE,vv2,vf,reduceCtorEq,reduceAdd,reduceEqDiff,(show (0:Int)<((l.length+1:Nat):Int) by omega),Int.le_refl,e2,beq_self_eq_true,Rd.Ai,h2,q1,Nat.add_sub_cancel,q2,(show (0:Int)≤1 by omega)];simp only [map_cons,append_assoc,cons_append,nil_append]
   ·have ho':(o.at_==s1.now)=false:=by simpa using ho
    refine Ev.of fun n z again => ?_;have e2:(g1.pre++List.map Out.enc (o::l))[g1.pre.length]? = some [tI o.at_,tI o.seg.kind,tI o.seg.ses,tI o.seg.ser,tI o.seg.off,tI o.seg.tot,.bool o.seg.chk,.str o.seg.data,.sl 2 (o.seg.AS.map Span.enc)]:=by rw [hp] at e1;rw [e1];rfl
    simp only [Kd,N3,Qn,H26,hp,ho,ho',BE,vv2,vf,reduceCtorEq,reduceAdd,reduceEqDiff,(show (0:Int)<((l.length+1:Nat):Int) by omega),Int.le_refl,e2,Rd.Az]
 ·obtain ⟨g1,s1⟩:=q;unfold Kd at hs;simp only at hI hs ⊢;cases hp:s1.pend with
  |nil=>rw [hp] at hs;cases hs
  |cons o l=>
   rw [hp] at hs hI;simp only at hs;split at hs
   ·cases hs;refine ⟨?_,by simp⟩;exact (Bud.Cs hI o.seg).of rfl rfl rfl rfl rfl rfl rfl rfl
   ·cases hs
 ·obtain ⟨g1,s1⟩:=q;unfold Kd;simp only;cases hp:s1.pend with
  |nil=>simp [txT,Rd.fin]
  |cons o l=>
   simp only [length_cons,txT,hp];split
   ·rfl
   ·simp [Rd.fin,txT,hp, *]
end Ab
set_option linter.unusedVariables false
set_option linter.unusedSimpArgs false
set_option maxRecDepth 100000
namespace Ab
open Go
def BC (g:Gh) (s:Ses) (v:Nat) (o:Option Seg):List AV×Heap:=([.rptr 8 v 0 0,.t (.bool o.isSome)],H26 E0 E0 E0 g s [.row false v 8 [(o.getD EX).enc]])
theorem XM (g:Gh) (s:Ses) (v:Nat) (y:Seg) (hr:Bz s.rep) :
  Ev fun n=>∀again e1 hp,OA n (fI C n) ((.rptr 8 v 0 0::e1),hp) again ([],H26 E0 E0 E0 g s [.row false v 8 [y.enc]])=again (BC g (Bs s).1 (v+1) (Bs s).2):=by
 cases hf:s.rep.frames with
 |nil=>
  have hn:Ay s.rep=none:=by simp [Ay,hf]
  rw [show Bs s=(s,none) by simp only [Bs,hf]];refine (Dk s.rep hr).mono fun n h again e1 hp => ?_;rw [hn] at h;simp only [BY.enc,DH] at h;simp only [BC,OA,Qr,H26,BE,vv2,vf,reduceCtorEq,reduceAdd,reduceEqDiff,getElem?_cons_zero,Seg.enc,h,isSome_none,getD_none,EX,map_nil,set_cons_zero,drop_succ_cons,drop_nil,append_nil,le_refl]
 |cons f l=>
  have hn:Ay s.rep=some f.arr:=by simp [Ay,hf]
  by_cases ha:f.arr=s.now
  ·rw [show Bs s=(BT s,some f.seg) by simp only [Bs,hf,ha,if_true]];refine ((Dk s.rep hr).and (RE s.rep hr f l hf)).mono fun n h again e1 hp => ?_;obtain ⟨h,h2⟩:=h;rw [hn,ha] at h;simp only [BY.enc,DH] at h h2;have hx:BT s={s with rep:=⟨s.rep.rng,l,s.rep.sent,s.rep.lost⟩}:=by simp only [BT,hf,tail_cons]
   simp only [hx,BC,OA,Qr,H26,BE,vv2,vf,reduceCtorEq,reduceAdd,reduceEqDiff,getElem?_cons_zero,Seg.enc,h,h2,bne_self_eq_false,isSome_some,Option.getD_some,set_cons_zero,drop_succ_cons,drop_nil,append_nil,le_refl]
  ·have ha':(f.arr != s.now)=true:=by simpa using ha
   rw [show Bs s=(s,none) by simp only [Bs,hf,ha,if_false]];refine (Dk s.rep hr).mono fun n h again e1 hp => ?_;rw [hn] at h;simp only [BY.enc,DH] at h;simp only [ha',BC,OA,Qr,H26,BE,vv2,vf,reduceCtorEq,reduceAdd,reduceEqDiff,getElem?_cons_zero,Seg.enc,h,isSome_none,getD_none,EX,map_nil,set_cons_zero,drop_succ_cons,drop_nil,append_nil,le_refl]
theorem hr_26 (g:Gh) (s:Ses) (v:Nat) (x:Seg) (hr:Bz s.rep) (ha:s.snd.acked.length≤100∧s.pend.length≤1000000) (hx:x.AS.length≤100∨1000<x.AS.length)
  (hw:¬s.now<s.snd.busy→(BU s.snd s.now x).2.2=0∧(BU s.snd s.now x).2.1.length≤1000000) :
  Ev fun n=>∀z again,FP n (fI C n) z (BC g s v (some x)) again=again (BC (lsG g s) (Bs (lsX s x)).1 (v+1) (Bs (lsX s x)).2):=by
 by_cases hb:s.now<s.snd.busy
 ·have e1:lsX s x=s:=by simp only [lsX,hb,if_true]
  have e2:lsG g s=g:=by simp only [lsG,hb,if_true]
  rw [e1,e2];refine (XM g s v x hr).mono fun n h z again => ?_;simp only [H26] at h;have hb':decide (s.now<s.snd.busy)=true:=decide_eq_true hb;simp only [BC,H26,isSome_some,Option.getD_some] at h ⊢;simp only [FP,H26,BE,vv2,vf,reduceCtorEq,reduceAdd,reduceEqDiff,hb,Fx,E9,h]
 ·obtain ⟨w1,w2⟩:=hw hb;have e2:lsG g s=gP g:=by simp only [lsG,hb,if_false]
  have hx2:lsX s x=lsF {s with snd:=(BU s.snd s.now x).1,pend:=s.pend++(BU s.snd s.now x).2.1}:=by simp only [lsX,hb,if_false]
  rw [e2];have key:=fun s' (hs:s'.rep=s.rep)=>XM (gP g) s' v x (by rw [hs];exact hr);have q2:¬g.pre.length+s.pend.length<g.pre.length+s.pend.length:=by omega
  have q4:take s.pend.length (List.map Out.enc s.pend)=List.map Out.enc s.pend:=take_of_length_le (by simp);have h148:=s148 s.snd s.now x ha.1 hx;simp only [Dm,w1,Snd.enc,Seg.enc,cons_append,nil_append] at h148;rw [hx2];generalize BU s.snd s.now x=w at h148 w1 w2 ⊢;obtain ⟨a,o,e⟩:=w;simp only at h148 w1 w2 ⊢;have q3:s.pend.length+o.length≤1073741824:=by omega
  by_cases hk:s.kno=false∧a.st=2
  ·have e3:lsF {s with snd:=a,pend:=s.pend++o}={s with snd:=a,pend:=s.pend++o,kno:=true,knoAt:=s.now}:=by simp only [lsF,hk,and_self,if_true]
   rw [e3];refine (h148.and (key {s with snd:=a,pend:=s.pend++o,kno:=true,knoAt:=s.now} rfl)).mono fun n h z again => ?_;obtain ⟨h,h2⟩:=h;simp only [H26,gP,map_append,nil_append] at h2;have hk1:(!s.kno)=true:=by simp [hk.1]
   have hk2:(a.st==2)=true:=by simp [hk.2]
   simp only [BC,H26,isSome_some,Option.getD_some,gP,map_append,nil_append];simp only [BC,H26,isSome_some,Option.getD_some,gP,map_append,nil_append,Seg.enc] at h2;simp only [FP,H26,BE,vv2,vf,reduceCtorEq,reduceAdd,reduceEqDiff,hb,hk1,hk2,Seg.enc,getElem?_cons_zero,h,bne_self_eq_false,beq_self_eq_true,length_append,q2,q3,q4,drop_left,le_refl,MQ,h2]
  ·have e3:lsF {s with snd:=a,pend:=s.pend++o}={s with snd:=a,pend:=s.pend++o}:=by simp only [lsF,hk,if_false]
   rw [e3];refine (h148.and (key {s with snd:=a,pend:=s.pend++o} rfl)).mono fun n h z again => ?_;obtain ⟨h,h2⟩:=h;simp only [H26,gP,map_append,nil_append] at h2;simp only [BC,H26,isSome_some,Option.getD_some,gP,map_append,nil_append];simp only [BC,H26,isSome_some,Option.getD_some,gP,map_append,nil_append,Seg.enc] at h2;rcases eq_false_or_eq_true s.kno with hk0|hk0
   ·have hk1:(!s.kno)=false:=by simp [hk0]
    simp only [FP,H26,BE,vv2,vf,reduceCtorEq,reduceAdd,reduceEqDiff,hb,hk1,Seg.enc,getElem?_cons_zero,h,bne_self_eq_false,beq_self_eq_true,length_append,q2,q3,q4,drop_left,le_refl,Jb,h2]
   ·have hk1:(!s.kno)=true:=by simp [hk0]
    have hk2:(a.st==2)=false:=by simpa using fun h=>hk ⟨hk0,h⟩
    simp only [FP,H26,BE,vv2,vf,reduceCtorEq,reduceAdd,reduceEqDiff,hb,hk1,hk2,Seg.enc,getElem?_cons_zero,h,bne_self_eq_false,beq_self_eq_true,length_append,q2,q3,q4,drop_left,le_refl,Jb,h2]
theorem l16_26:FP=FP:=rfl
theorem lp_26 {P:Ses→Prop} (hP:LsP P) (q:LS) (h:q.inv P) :
  Ev fun n=>∀z,AJ (fun p again=>FP n (fI C n) z p again) n (BC q.g q.s q.v q.o)=z ([],H26 E0 E0 E0 q.res.1 q.res.2 []):=by
 refine CF (R:=List Tree) (Z:=List AV×Heap→Option (List Tree)) (Q:=Gh×Ses) (B:=fun n z p again=>FP n (fI C n) z p again) (r:=q.res)
  (fun z r=>z ([],H26 E0 E0 E0 r.1 r.2 [])) (fun q:LS=>BC q.g q.s q.v q.o) LS.step (LS.inv P) (fun q=>q.s.rep.frames.length+(if q.o.isSome then 1 else 0)) LS.res q rfl h rfl
  (fun q hI => ?_) (fun q q' hI hs=>LS.sound hP q q' hI hs) (fun q hI=>LS.fin hP q hI)
 obtain ⟨g,s,v,o⟩:=q;cases o with
 |none=>
  refine Ev.of fun n z again => ?_;simp only [BC,isSome_none,FP,H26,BE,vv2,vf,reduceCtorEq,reduceAdd,reduceEqDiff,LS.step,Rd.Az]
 |some x=>
  obtain ⟨h1,h2,h3,h4,h5⟩:=hI;refine (hr_26 g s v x h1 h2 h3 h4).mono fun n h z again => ?_;simp only [LS.step,Rd.Ai];exact h z again
theorem ls_26 {P:Ses→Prop} (hP:LsP P) (g:Gh) (s:Ses) (f1 f2 f3:AF) (h:P s) :
  Ev fun n=>∀again,Zi n (fI C n) again ([.ptr 7 0],H26 f1 f2 f3 g s [])=again ([],H26 E0 E0 E0 (lsT s.rep.frames.length (g,s)).1 (lsS s.rep.frames.length s) []):=by
 have hr:=hP.rep s h;obtain ⟨i1,i2⟩:=LS.take hP h g 0;have key:=lp_26 hP _ i1;rw [i2,QD] at key;simp only at key;cases hf:s.rep.frames with
 |nil=>
  have hn:Ay s.rep=none:=by simp [Ay,hf]
  have e:Bs s=(s,none):=by simp only [Bs,hf]
  rw [e] at key;rw [hf] at key;refine ((Dk s.rep hr).and key).mono fun n h again => ?_;obtain ⟨h,k⟩:=h;rw [hn] at h;simp only [BY.enc,DH] at h;have k:=k again;simp only [BC,H26,isSome_none,getD_none,EX,Seg.enc,map_nil] at k;simp only [Sz,Sl,Qq,H26,BE,vv2,vf,reduceCtorEq,reduceAdd,reduceEqDiff,h,k]
 |cons f l=>
  have hn:Ay s.rep=some f.arr:=by simp [Ay,hf]
  by_cases ha:f.arr=s.now
  ·have e:Bs s=(BT s,some f.seg):=by simp only [Bs,hf,ha,if_true]
   rw [e] at key;rw [hf] at key;refine ((Dk s.rep hr).and ((RE s.rep hr f l hf).and key)).mono fun n h again => ?_;obtain ⟨h,h2,k⟩:=h;rw [hn,ha] at h;simp only [BY.enc,DH] at h h2;have hx:BT s={s with rep:=⟨s.rep.rng,l,s.rep.sent,s.rep.lost⟩}:=by simp only [BT,hf,tail_cons]
   have k:=k again;simp only [BC,H26,isSome_some,Option.getD_some,Seg.enc,hx] at k;simp only [Sz,Sl,Qq,l16_26,H26,BE,vv2,vf,reduceCtorEq,reduceAdd,reduceEqDiff,h,h2,bne_self_eq_false,k]
  ·have ha':(f.arr != s.now)=true:=by simpa using ha
   have e:Bs s=(s,none):=by simp only [Bs,hf,ha,if_false]
   rw [e] at key;rw [hf] at key;refine ((Dk s.rep hr).and key).mono fun n h again => ?_;obtain ⟨h,k⟩:=h;rw [hn] at h;simp only [BY.enc,DH] at h;have k:=k again;simp only [BC,H26,isSome_none,getD_none,EX,Seg.enc,map_nil] at k;simp only [Sz,Sl,Qq,H26,BE,vv2,vf,reduceCtorEq,reduceAdd,reduceEqDiff,h,ha',k]
end Ab
set_option linter.unusedVariables false
set_option linter.unusedSimpArgs false
set_option maxRecDepth 100000
namespace Ab
open Go
theorem tkD_26 (g:Gh) (s:Ses) (v:Nat) (y:Seg) (hr:Bz s.dat) :
  Ev fun n=>∀again e1 hp,N9 n (fI C n) ((.rptr 8 v 0 0::e1),hp) again ([],H26 E0 E0 E0 g s [.row false v 8 [y.enc]])=again (BC g (Bt s).1 (v+1) (Bt s).2):=by
 cases hf:s.dat.frames with
 |nil=>
  have hn:Ay s.dat=none:=by simp [Ay,hf]
  rw [show Bt s=(s,none) by simp only [Bt,hf]];refine (Dk s.dat hr).mono fun n h again e1 hp => ?_;rw [hn] at h;simp only [BY.enc,DH] at h;simp only [BC,N9,Qp,H26,BE,vv2,vf,reduceCtorEq,reduceAdd,reduceEqDiff,getElem?_cons_zero,Seg.enc,h,isSome_none,getD_none,EX,map_nil,set_cons_zero,drop_succ_cons,drop_nil,append_nil,le_refl]
 |cons f l=>
  have hn:Ay s.dat=some f.arr:=by simp [Ay,hf]
  by_cases ha:f.arr=s.now
  ·rw [show Bt s=(BF s,some f.seg) by simp only [Bt,hf,ha,if_true]];refine ((Dk s.dat hr).and (RE s.dat hr f l hf)).mono fun n h again e1 hp => ?_;obtain ⟨h,h2⟩:=h;rw [hn,ha] at h;simp only [BY.enc,DH] at h h2;have hx:BF s={s with dat:=⟨s.dat.rng,l,s.dat.sent,s.dat.lost⟩}:=by simp only [BF,hf,tail_cons]
   simp only [hx,BC,N9,Qp,H26,BE,vv2,vf,reduceCtorEq,reduceAdd,reduceEqDiff,getElem?_cons_zero,Seg.enc,h,h2,bne_self_eq_false,isSome_some,Option.getD_some,set_cons_zero,drop_succ_cons,drop_nil,append_nil,le_refl]
  ·have ha':(f.arr != s.now)=true:=by simpa using ha
   rw [show Bt s=(s,none) by simp only [Bt,hf,ha,if_false]];refine (Dk s.dat hr).mono fun n h again e1 hp => ?_;rw [hn] at h;simp only [BY.enc,DH] at h;simp only [ha',BC,N9,Qp,H26,BE,vv2,vf,reduceCtorEq,reduceAdd,reduceEqDiff,getElem?_cons_zero,Seg.enc,h,isSome_none,getD_none,EX,map_nil,set_cons_zero,drop_succ_cons,drop_nil,append_nil,le_refl]
theorem rp_26 (g:Gh) (s:Ses) (v:Nat) (x:Seg) (r:Rcv) (l:List Seg) (y:List Tree) (hy:gL y 4=l.map Seg.enc) (f1 f2 f3:AF) (e00:List AV) (g00:Gh) (s00:Ses) (hb:Bud l.length s) :
  Ev fun n=>∀z,AJ (fun p again=>JR n (fI C n) y (e00,H26 f1 f2 f3 g00 s00 []) z p again) n ([.t (tI 0)],H26 E0 E0 E0 g s [.row false v 8 [x.enc],Is r])=z ([],H26 E0 E0 E0 {g with v5:=g.v5+l.length} (rxF (l.foldl Cv s)) [.row false v 8 [x.enc]]):=by
 have key:=Eg (R:=List Tree) (Z:=List AV×Heap→Option (List Tree)) (Q:=Gh×Ses) (B:=fun n z p again=>JR n (fI C n) y (e00,H26 f1 f2 f3 g00 s00 []) z p again)
  (s:=(([.t (tI 0)],H26 E0 E0 E0 g s [.row false v 8 [x.enc],Is r]):List AV×Heap)) (r:=({g with v5:=g.v5+l.length},l.foldl Cv s)) l
  (fun i (q:Gh×Ses)=>(([.t (tI i)],H26 E0 E0 E0 q.1 q.2 [.row false v 8 [x.enc],Is r]):List AV×Heap)) (fun _ q y =>.next ({q.1 with v5:=q.1.v5+1},Cv q.2 y)) (fun q=>q)
  (fun z q=>z ([],H26 E0 E0 E0 q.1 (rxF q.2) [.row false v 8 [x.enc]])) (fun i q=>Bud (l.length-i) q.2) (g,s) rfl hb ?_
  (fun i q w hx hI => ?_) (fun i q w q' hx hI hs => ?_) (fun q hI => ?_)
 ·exact key
 ·rw [Fb,Td]
 ·have hi:=AZ hx;obtain ⟨g1,s1⟩:=q;have hI':Bud (l.length-(i+1)+1) s1:=by
   have:l.length-(i+1)+1=l.length-i:=by omega
   rw [this];exact hI
  have k:=entR_26 g1 s1 w (.row true (AF.ver f1) 15 (Aq f1)) (.row true (AF.ver f2) 4 (Aq f2)) (.row true (AF.ver f3) 4 (Aq f3)) hI'.eR v [x.enc] r.ses r.tot (r.known.map Span.enc) r.data w;refine k.mono fun n h z again => ?_;have h:=fun again=>h again;simp only [BH,H26] at h;simp only [JR,UA,Is,H26,hy,BE,vv2,vf,reduceCtorEq,reduceAdd,reduceEqDiff,hx,Seg.enc,(show (i:Int)<(l.length:Int) by omega),Aw (show i<4611686018427387904 by have:=hb.ent;omega),Rd.Ai,Fx,E9];simp only [Seg.enc] at h;simp only [h,UA,BE,vv2,vf,reduceCtorEq,reduceAdd,reduceEqDiff,Aw (show i<4611686018427387904 by have:=hb.ent;omega)]
 ·cases hs;have hi:=AZ hx;have:l.length-i=l.length-(i+1)+1:=by omega
  rw [this] at hI;exact hI.Cv w
 ·obtain ⟨g1,s1⟩:=q;rcases eq_false_or_eq_true s1.rcvd with hr|hr
  ·have hr1:(!s1.rcvd)=false:=by simp [hr]
   have e:rxF s1=s1:=by simp only [rxF,hr,Bool.true_eq_false,false_and,if_false]
   rw [e];refine Ev.of fun n z again => ?_;simp only [JR,Is,H26,hy,BE,vv2,vf,reduceCtorEq,reduceAdd,reduceEqDiff,lt_irrefl,hr1]
  ·have hr1:(!s1.rcvd)=true:=by simp [hr]
   refine (s147 s1.rcv).mono fun n h z again => ?_;simp only [Rcv.enc] at h;rcases eq_false_or_eq_true (A7 s1.rcv) with hc|hc
   ·have e:rxF s1={s1 with rcvd:=true,arrive:=s1.now}:=by simp only [rxF,hr,hc,and_self,if_true]
    rw [e];simp only [JR,Is,H26,hy,BE,vv2,vf,reduceCtorEq,reduceAdd,reduceEqDiff,lt_irrefl,hr1,h,hc]
   ·have e:rxF s1=s1:=by simp only [rxF,hc,false_eq_true,and_false,if_false]
    rw [e];simp only [JR,Is,H26,hy,BE,vv2,vf,reduceCtorEq,reduceAdd,reduceEqDiff,lt_irrefl,hr1,h,hc]
theorem hd_26 (g:Gh) (s:Ses) (v:Nat) (x:Seg) (f1 f2 f3:AF) (e00:List AV) (g00:Gh) (s00:Ses) (hd:Bz s.dat) (hw:(Ei s.rcv x).2.2=0) (hb:Bud (Ei s.rcv x).2.1.length s) :
  Ev fun n=>∀z again,Gy n (fI C n) (e00,H26 f1 f2 f3 g00 s00 []) z (BC g s v (some x)) again=again (BC (rxG g s x) (Bt (rxX s x)).1 (v+1) (Bt (rxX s x)).2):=by
 have key:=tkD_26 (rxG g s x) (rxX s x) v x (by rw [FV];exact hd);have k146:=s146 s.rcv x;unfold rxG rxX rxH at key ⊢;generalize Ei s.rcv x=w at hw hb k146 key ⊢;obtain ⟨a,l,e⟩:=w;simp only at hw hb key ⊢;subst hw;have kl:=rp_26 g {s with rcv:=a} v x a l [tI a.ses,tI a.tot,.sl 2 (a.known.map Span.enc),.str a.data,.sl 8 (l.map Seg.enc),tI 0] rfl f1 f2 f3 e00 g00 s00 (hb.of rfl rfl rfl rfl rfl rfl rfl rfl);simp only [YS,Rcv.enc,Seg.enc,cons_append,nil_append] at k146;refine (k146.and (kl.and key)).mono fun n h z again => ?_;obtain ⟨h,h2,h3⟩:=h;have h3:=fun e1 hp=>h3 again e1 hp;simp only [BC,H26,isSome_some,Option.getD_some,Is,Seg.enc] at h2 h3 ⊢;simp only [Gy,H26,BE,vv2,vf,reduceCtorEq,reduceAdd,reduceEqDiff,Fx,E9,getElem?_cons_zero,h,bne_self_eq_false,h2,h3]
theorem l32_26:Gy=Gy:=rfl
theorem dp_26 {P:Ses→Prop} (hP:RxP P) (q:RS) (h:q.inv P) (f1 f2 f3:AF) (e00:List AV) (g00:Gh) (s00:Ses) :
  Ev fun n=>∀z,AJ (fun p again=>Gy n (fI C n) (e00,H26 f1 f2 f3 g00 s00 []) z p again) n (BC q.g q.s q.v q.o)=z ([],H26 E0 E0 E0 q.res.1 q.res.2 []):=by
 refine CF (R:=List Tree) (Z:=List AV×Heap→Option (List Tree)) (Q:=Gh×Ses) (B:=fun n z p again=>Gy n (fI C n) (e00,H26 f1 f2 f3 g00 s00 []) z p again) (r:=q.res)
  (fun z r=>z ([],H26 E0 E0 E0 r.1 r.2 [])) (fun q:RS=>BC q.g q.s q.v q.o) RS.step (RS.inv P) (fun q=>q.s.dat.frames.length+(if q.o.isSome then 1 else 0)) RS.res q rfl h rfl
  (fun q hI => ?_) (fun q q' hI hs=>RS.sound hP q q' hI hs) (fun q hI=>RS.fin hP q hI)
 obtain ⟨g,s,v,o⟩:=q;cases o with
 |none=>
  refine Ev.of fun n z again => ?_;simp only [BC,isSome_none,Gy,H26,BE,vv2,vf,reduceCtorEq,reduceAdd,reduceEqDiff,RS.step,Rd.Az]
 |some x=>
  obtain ⟨h1,h2,h3,h4⟩:=hI;refine (hd_26 g s v x f1 f2 f3 e00 g00 s00 h1 h2 h3).mono fun n h z again => ?_;simp only [RS.step,Rd.Ai];exact h z again
theorem rx_26 {P:Ses→Prop} (hP:RxP P) (g:Gh) (s:Ses) (f1 f2 f3:AF) (h:P s) :
  Ev fun n=>∀again,Zg n (fI C n) again ([.ptr 7 0],H26 f1 f2 f3 g s [])=again ([],H26 E0 E0 E0 (rxT s.dat.frames.length (g,s)).1 (rxS s.dat.frames.length s) []):=by
 have hr:=hP.dat s h;obtain ⟨i1,i2⟩:=RS.take hP h g 0;have key:=dp_26 hP _ i1 f1 f2 f3 [.ptr 7 0] g s;rw [i2,Ps] at key;simp only at key;cases hf:s.dat.frames with
 |nil=>
  have hn:Ay s.dat=none:=by simp [Ay,hf]
  have e:Bt s=(s,none):=by simp only [Bt,hf]
  rw [e] at key;rw [hf] at key;refine ((Dk s.dat hr).and key).mono fun n h again => ?_;obtain ⟨h,k⟩:=h;rw [hn] at h;simp only [BY.enc,DH] at h;have k:=k again;simp only [BC,H26,isSome_none,getD_none,EX,Seg.enc,map_nil] at k;simp only [Sy,Sk,Qo,H26,BE,vv2,vf,reduceCtorEq,reduceAdd,reduceEqDiff,h,k]
 |cons f l=>
  have hn:Ay s.dat=some f.arr:=by simp [Ay,hf]
  by_cases ha:f.arr=s.now
  ·have e:Bt s=(BF s,some f.seg):=by simp only [Bt,hf,ha,if_true]
   rw [e] at key;rw [hf] at key;refine ((Dk s.dat hr).and ((RE s.dat hr f l hf).and key)).mono fun n h again => ?_;obtain ⟨h,h2,k⟩:=h;rw [hn,ha] at h;simp only [BY.enc,DH] at h h2;have hx:BF s={s with dat:=⟨s.dat.rng,l,s.dat.sent,s.dat.lost⟩}:=by simp only [BF,hf,tail_cons]
   have k:=k again;simp only [BC,H26,isSome_some,Option.getD_some,Seg.enc,hx] at k;simp only [Sy,Sk,Qo,l32_26,H26,BE,vv2,vf,reduceCtorEq,reduceAdd,reduceEqDiff,h,h2,bne_self_eq_false,k]
  ·have ha':(f.arr != s.now)=true:=by simpa using ha
   have e:Bt s=(s,none):=by simp only [Bt,hf,ha,if_false]
   rw [e] at key;rw [hf] at key;refine ((Dk s.dat hr).and key).mono fun n h again => ?_;obtain ⟨h,k⟩:=h;rw [hn] at h;simp only [BY.enc,DH] at h;have k:=k again;simp only [BC,H26,isSome_none,getD_none,EX,Seg.enc,map_nil] at k;simp only [Sy,Sk,Qo,H26,BE,vv2,vf,reduceCtorEq,reduceAdd,reduceEqDiff,h,ha',k]
end Ab
set_option linter.unusedVariables false
set_option linter.unusedSimpArgs false
set_option maxRecDepth 100000
namespace Ab
open Go
theorem stp_26 {W P1 P2:Ses→Prop} {μ:Ses→Nat} (hR:Sn W P1 P2 μ) (g:Gh) (s:Ses) (t:Int) (h:W s) (ht:nxS s=some t) (f1 f2 f3:AF) (e00:List AV) (g00:Gh) (s00:Ses) :
  Ev fun n=>∀z again,N2 n (fI C n) (e00,H26 f1 f2 f3 g00 s00 []) z (CP (nxS s),H26 E0 E0 E0 g s []) again=again (CP (nxS (stS s t)),H26 E0 E0 E0 (stT (g,s) t).1 (stS s t) []):=by
 have k0:=tx_26 g {s with now:=t} (.row true (AF.ver f1) 15 (Aq f1)) (.row true (AF.ver f2) 4 (Aq f2)) (.row true (AF.ver f3) 4 (Aq f3)) (hR.tx s t h ht);have k1:=rx_26 hR.rx (g1T g s t) (ph1 s t) (.row true (AF.ver f1) 15 (Aq f1)) (.row true (AF.ver f2) 4 (Aq f2)) (.row true (AF.ver f3) 4 (Aq f3)) (hR.p1 s t h ht);have k2:=ls_26 hR.ls (g2T g s t) (ph2 s t) (.row true (AF.ver f1) 15 (Aq f1)) (.row true (AF.ver f2) 4 (Aq f2)) (.row true (AF.ver f3) 4 (Aq f3)) (hR.p2 s t h ht);have hx:=hR.ex s t h ht;have k3:=ex_26 (g3T g s t) (ph3 s t) (.row true (AF.ver f1) 15 (Aq f1)) (.row true (AF.ver f2) 4 (Aq f2)) (.row true (AF.ver f3) 4 (Aq f3)) hx.ent hx.ack hx.pl hx.w;obtain ⟨n1,n2,n3⟩:=hR.nx _ (hR.st s t h ht).1;have k4:=nx_26 (exG (g3T g s t) (ph3 s t)) (stS s t) (.row true (AF.ver f1) 15 (Aq f1)) (.row true (AF.ver f2) 4 (Aq f2)) (.row true (AF.ver f3) 4 (Aq f3)) n1 n2 n3;refine (k0.and (k1.and (k2.and (k3.and (k4.and (Ev.ge 5)))))).mono fun n hh z again => ?_;obtain ⟨k0,k1,k2,k3,k4,hn⟩:=hh;have q:AJ (fun p again'=>JQ n (fI C n) (e00,H26 f1 f2 f3 g00 s00 []) again p again') n ([.t (tI 0)],H26 E0 E0 E0 g {s with now:=t} [])=again (CP (nxS (stS s t)),H26 E0 E0 E0 (exG (g3T g s t) (ph3 s t)) (stS s t) []):=by
  refine M7 _ _ ([.t (tI 1)],H26 E0 E0 E0 (g1T g s t) (ph1 s t) []) ([.t (tI 2)],H26 E0 E0 E0 (g2T g s t) (ph2 s t) []) ([.t (tI 3)],H26 E0 E0 E0 (g3T g s t) (ph3 s t) []) ([.t (tI 4)],H26 E0 E0 E0 (exG (g3T g s t) (ph3 s t)) (stS s t) []) _ n hn (fun ag => ?_) (fun ag => ?_) (fun ag => ?_) (fun ag => ?_) (fun ag => ?_)
  ·have k0:=fun ag=>k0 ag;simp only [H26] at k0;simp only [JQ,IG,H26,BE,vv2,vf,reduceCtorEq,reduceAdd,reduceEqDiff,(show ¬(0:Int)=((3:Nat):Int) by omega),(show ¬(0:Int)=((2:Nat):Int) by omega),(show ¬(0:Int)=((1:Nat):Int) by omega),(show (0:Int)=((0:Nat):Int) by omega),(show (0:Int)<4 by omega),(show (0:Int)≤0 by omega),k0];rfl
  ·have k1:=fun ag=>k1 ag;simp only [H26] at k1;simp only [JQ,IG,H26,BE,vv2,vf,reduceCtorEq,reduceAdd,reduceEqDiff,(show ¬(1:Int)=((3:Nat):Int) by omega),(show ¬(1:Int)=((2:Nat):Int) by omega),(show (1:Int)=((1:Nat):Int) by omega),(show (1:Int)<4 by omega),(show (0:Int)≤1 by omega),k1];rfl
  ·have k2:=fun ag=>k2 ag;simp only [H26] at k2;simp only [JQ,IG,H26,BE,vv2,vf,reduceCtorEq,reduceAdd,reduceEqDiff,(show ¬(2:Int)=((3:Nat):Int) by omega),(show (2:Int)=((2:Nat):Int) by omega),(show (2:Int)<4 by omega),(show (0:Int)≤2 by omega),k2];rfl
  ·have k3:=fun ag=>k3 ag;simp only [H26] at k3;simp only [JQ,IG,H26,BE,vv2,vf,reduceCtorEq,reduceAdd,reduceEqDiff,(show (3:Int)=((3:Nat):Int) by omega),(show (3:Int)<4 by omega),(show (0:Int)≤3 by omega),k3];rfl
  ·have k4:=fun ag=>k4 ag;simp only [H26] at k4;simp only [JQ,ZO,H26,BE,vv2,vf,reduceCtorEq,reduceAdd,reduceEqDiff,(show ¬(4:Int)<4 by omega),k4,CP]
 rw [ht];simp only [H26] at q;simp only [N2,CP,Option.getD_some,isSome_some,H26,BE,vv2,vf,reduceCtorEq,reduceAdd,reduceEqDiff];exact q
theorem rn_26 {W P1 P2:Ses→Prop} {μ:Ses→Nat} (hR:Sn W P1 P2 μ) (g:Gh) (s:Ses) (f1 f2 f3:AF) (h:W s) :
  Ev fun n=>∀again,Vw n (fI C n) again ([.ptr 7 0],H26 f1 f2 f3 g s [])=again ([],H26 E0 E0 E0 (rnT (μ s) (g,s)).1 (HJ (μ s) s) []):=by
 have key:=CF (R:=List Tree) (Z:=List AV×Heap→Option (List Tree)) (Q:=Gh×Ses) (B:=fun n z p again=>N2 n (fI C n) ([.ptr 7 0],H26 f1 f2 f3 g s []) z p again)
  (s:=((CP (nxS s),H26 E0 E0 E0 g s []):List AV×Heap)) (r:=rnT (μ s) (g,s))
  (fun z r=>z ([],H26 E0 E0 E0 r.1 r.2 [])) (fun q:Gh×Ses=>((CP (nxS q.2),H26 E0 E0 E0 q.1 q.2 []):List AV×Heap)) (fun q=>match nxS q.2 with
   |none =>.done q
   |some t =>.next (stT q t)) (fun q=>W q.2) (fun q=>μ q.2) (fun q=>rnT (μ q.2) q) (g,s) rfl h rfl
  (fun q hI => ?_) (fun q q' hI hs => ?_) (fun q hI => ?_)
 ·obtain ⟨n1,n2,n3⟩:=hR.nx s h;have k4:=nx_26 g s (.row true (AF.ver f1) 15 (Aq f1)) (.row true (AF.ver f2) 4 (Aq f2)) (.row true (AF.ver f3) 4 (Aq f3)) n1 n2 n3;refine (key.and k4).mono fun n hh again => ?_;obtain ⟨k,k4⟩:=hh;have k:=k again;rw [Pu] at k;simp only [H26,CP] at k k4;simp only [tC26_8,Y5,ZN,H26,BE,vv2,vf,reduceCtorEq,reduceAdd,reduceEqDiff,k4,k]
 ·obtain ⟨g1,s1⟩:=q;simp only at hI ⊢;cases hn:nxS s1 with
  |none=>
   refine Ev.of fun n z again => ?_;simp only [N2,CP,getD_none,isSome_none,H26,BE,vv2,vf,reduceCtorEq,reduceAdd,reduceEqDiff,Rd.Az]
  |some t=>
   have:=stp_26 hR g1 s1 t hI hn f1 f2 f3 [.ptr 7 0] g s;rw [hn] at this;refine this.mono fun n h z again => ?_;simp only [Rd.Ai];exact h z again
 ·cases hn:nxS q.2 with
  |none=>rw [hn] at hs;cases hs
  |some t=>
   rw [hn] at hs;cases hs;exact hR.st q.2 t hI hn
 ·cases hn:nxS q.2 with
  |none=>
   cases hm:μ q.2 with
   |zero=>rfl
   |succ m=>simp only [rnT,hn,Rd.fin]
  |some t=>
   obtain ⟨h1,h2⟩:=hR.st q.2 t hI hn;simp only [Rd.fin];cases hm:μ q.2 with
   |zero=>omega
   |succ m=>
    simp only [rnT,hn];exact Gc hR m (stT q t) h1 (by simp only [stT];omega)
end Ab
set_option linter.unusedVariables false
set_option linter.unusedSimpArgs false
set_option maxRecDepth 100000
namespace Ab
open Go
theorem s26 {W P1 P2:Ses→Prop} {μ:Ses→Nat} (hR:Sn W P1 P2 μ) (c:Con) (b e:Int) (d:ByteArray) (ps:List Int) (lim:Int) (dk:List Span) (hW:K4 c b e d ps lim dk=0→W (ini c b e d ps lim dk)) (hL:K4 c b e d ps lim dk=0→ -9223372036854775808≤(HJ (μ (ini c b e d ps lim dk)) (ini c b e d ps lim dk)).dat.lost+(HJ (μ (ini c b e d ps lim dk)) (ini c b e d ps lim dk)).rep.lost∧(HJ (μ (ini c b e d ps lim dk)) (ini c b e d ps lim dk)).dat.lost+(HJ (μ (ini c b e d ps lim dk)) (ini c b e d ps lim dk)).rep.lost<9223372036854775808) :
  AT C 26 (F8 c b e d ps lim dk) (if K4 c b e d ps lim dk=0 then TH (HJ (μ (ini c b e d ps lim dk)) (ini c b e d ps lim dk)) else [.bool false,tI 0,.bool false,tI 0,tI 0,tI 0,tI 0,tI (K4 c b e d ps lim dk)]):=by
 unfold F8 K4 at *;refine AT.of (fun n=>e26 n _ _ _ _ _ _ _ _ _ _ _ _ _) ?_;by_cases h1:1000<ps.length
 ·refine Ev.of fun n => ?_;simp only [h1,vv2,vf,reduceCtorEq,reduceAdd,reduceEqDiff,(show (1000:Int)<(ps.length:Int) by omega),(show ¬(4:Int)=0 by omega)]
 ·have h1':¬(1000:Int)<(ps.length:Int):=by omega
  by_cases h2:lim < -1
  ·refine Ev.of fun n => ?_;simp only [h1,h1',h2,vv2,vf,reduceCtorEq,reduceAdd,reduceEqDiff,(show ¬(2:Int)=0 by omega)]
  ·by_cases h3:BG dk=0
   ·by_cases h4:(Bi c 0 d b e).2.2=0
    ·have hr:=Oe h4;simp only [h1,h2,h3,h4,if_false,ne_eq,not_true_eq_false,if_true] at hW hL ⊢;have hL:=hL trivial;have kr:=rn_26 hR ⟨0,0,0,[]⟩ (ini c b e d ps lim dk) (.row true 0 15 [(ini c b e d ps lim dk).snd.enc]) (.row true 0 4 [[tI c.rng,.sl 10 [],tI 0,tI 0]]) (.row true 0 4 [[tI 0,tI (-1),.sl 2 [],.str (ByteArray.mk #[])]]) (hW trivial);refine ((s67 dk).and ((Jk c 0 d b e).and ((s69 c.rng hr).and ((s70 0).and kr)))).mono fun n hh => ?_;obtain ⟨k1,k2,k3,k4,kr⟩:=hh;have k4':YD 0=(⟨0,-1,[],ByteArray.mk #[]⟩,0):=rfl;rw [k4'] at k4;simp only [Dm,h4,Con.enc,Snd.enc,Rcv.enc,cons_append,nil_append,map_nil] at k2 k4;simp only [h1',h2,h3,k1,k2,k3,k4,vv2,vf,reduceCtorEq,reduceAdd,reduceEqDiff,bne_self_eq_false];refine (kr _).trans ?_;generalize HJ (μ (ini c b e d ps lim dk)) (ini c b e d ps lim dk)=fs at hL ⊢;generalize (rnT (μ (ini c b e d ps lim dk)) (⟨0,0,0,[]⟩,ini c b e d ps lim dk)).1=g;simp only [T9,TH,H26,BE,vv2,vf,reduceCtorEq,reduceAdd,reduceEqDiff,Ad hL.1 hL.2]
    ·have h4':((Bi c 0 d b e).2.2 != 0)=true:=by simpa using h4
     refine ((s67 dk).and (Jk c 0 d b e)).mono fun n hh => ?_;obtain ⟨k1,k2⟩:=hh;simp only [Dm,Con.enc,Snd.enc,cons_append,nil_append] at k2;simp only [h1,h1',h2,h3,h4,k1,k2,h4',vv2,vf,reduceCtorEq,reduceAdd,reduceEqDiff,bne_self_eq_false,ne_eq,not_true_eq_false]
   ·have h3':(BG dk != 0)=true:=by simpa using h3
    refine (s67 dk).mono fun n k1 => ?_;simp only [h1,h1',h2,h3,k1,h3',vv2,vf,reduceCtorEq,reduceAdd,reduceEqDiff,ne_eq,not_false_eq_true,(show ¬(1:Int)=0 by omega)]
end Ab
set_option maxRecDepth 100000
set_option linter.unusedVariables false
namespace Ab
open Go Go.Proofs
theorem e13 (n:Nat) (a0:Int) (a1:Int) (a2:Int) (a3:Int) (a4:Int) (a5:Int) (a6:Int) (a7:Int) (a8:Int) (a9:ByteArray) (a10:List (List Tree)) (a11:Int) (a12:List (List Tree)):AA C (n+1) 13 [tI a0,tI a1,tI a2,tI a3,tI a4,tI a5,tI a6,tI a7,tI a8,Tree.str a9,Tree.sl 1 a10,tI a11,Tree.sl 2 a12]=
 Option.bind (AA C n 26 [tI a0,tI a1,tI a2,tI a3,tI a4,tI a5,tI a6,tI a7,tI a8,Tree.str a9,Tree.sl 1 a10,tI a11,Tree.sl 2 a12]) fun y13=>cnd (length y13 =
 (8:Nat)) (cnd (okB y13 0) (cnd (okI y13 1) (cnd (okB y13 2) (cnd (okI y13 3) (cnd (okI y13 4) (cnd (okI y13 5) (cnd (okI y13 6) (cnd (okI y13 7) (some [Tree.bool (gB y13 0),tI (gI y13 1),Tree.bool
 (gB y13 2),tI (gI y13 3),tI (gI y13 4),tI (gI y13 5),tI (gI y13 6),tI (gI y13 7)]) none) none) none) none) none) none) none) none) none:=by kernel_rfl
theorem e15 (n:Nat) (a0:Int) (a1:Int) (a2:Int) (a3:Int) (a4:Int) (a5:Int) (a6:Int) (a7:Int) (a8:Int) (a9:ByteArray) (a10:List (List Tree)) (a11:Int) (a12:List (List Tree)):AA C (n+1) 15 [tI a0,tI a1,tI a2,tI a3,tI a4,tI a5,tI a6,tI a7,tI a8,Tree.str a9,Tree.sl 1 a10,tI a11,Tree.sl 2 a12]=
 Option.bind (AA C n 28 [tI a0,tI a1,tI a2,tI a3,tI a4,tI a5,tI a6,tI a7,tI a8,Tree.str a9,Tree.sl 1 a10,tI a11,Tree.sl 2 a12]) fun y13=>cnd (length y13 =
 (3:Nat)) (cnd (okL 9 y13 0) (cnd (okL 9 y13 1) (cnd (okI y13 2) (some [Tree.sl 9 (gL y13 0),Tree.sl 9 (gL y13 1),tI (gI y13 2)]) none) none) none) none:=by kernel_rfl
end Ab
set_option linter.unusedVariables false
set_option linter.unusedSimpArgs false
set_option maxRecDepth 100000
namespace Ab
open Go
def K8 (r:Int):Int:=if (if 1048576<r then 1048576 else r)>0 then (if 1048576<r then 1048576 else r) else 0
def Kx (p:Par):Bool:=decide (120<p.d.size∨(60<p.ps.length∧p.ps.length≤1000)∨20<p.dk.length∨p.e>w64 (p.b+w64 (40*w64 (w64 (2*K8 p.c.rng)+1))))
def FT (p:Par):List Tree:=F8 p.c p.b p.e p.d p.ps p.lim p.dk
def FY (p:Par):Int:=K4 p.c p.b p.e p.d p.ps p.lim p.dk
theorem s11 (p:Par):AT C 11 (FT p) [.bool (Kx p)]:=by
 unfold FT F8;refine AT.of (fun n=>e11 n _ _ _ _ _ _ _ _ _ _ _ _ _) (Ev.of fun n => ?_);unfold Kx;simp only [length_map];have e:(if (if (1048576:Int)<p.c.rng then (1048576:Int) else p.c.rng)>(0:Int) then (if (1048576:Int)<p.c.rng then (1048576:Int) else p.c.rng) else (0:Int))=K8 p.c.rng:=rfl;rw [e];by_cases h1:120<p.d.size
 ·simp only [vv,vf,reduceCtorEq,reduceAdd,reduceEqDiff,h1,(show (p.d.size:Int)>120 by omega)]
 ·by_cases h2:60<p.ps.length
  ·by_cases h3:p.ps.length≤1000
   ·simp only [vv,vf,reduceCtorEq,reduceAdd,reduceEqDiff,h1,h2,h3,(show ¬(120:Int)<(p.d.size:Int) by omega),(show (60:Int)<(p.ps.length:Int) by omega),(show (p.ps.length:Int)≤1000 by omega)]
   ·by_cases h4:20<p.dk.length
    ·simp only [vv,vf,reduceCtorEq,reduceAdd,reduceEqDiff,h1,h2,h3,h4,(show ¬(120:Int)<(p.d.size:Int) by omega),(show (60:Int)<(p.ps.length:Int) by omega),(show ¬(p.ps.length:Int)≤1000 by omega),(show (20:Int)<(p.dk.length:Int) by omega)]
    ·simp only [vv,vf,reduceCtorEq,reduceAdd,reduceEqDiff,h1,h2,h3,h4,(show ¬(120:Int)<(p.d.size:Int) by omega),(show (60:Int)<(p.ps.length:Int) by omega),(show ¬(p.ps.length:Int)≤1000 by omega),(show ¬(20:Int)<(p.dk.length:Int) by omega)]
  ·by_cases h4:20<p.dk.length
   ·simp only [vv,vf,reduceCtorEq,reduceAdd,reduceEqDiff,h1,h2,h4,(show ¬(120:Int)<(p.d.size:Int) by omega),(show ¬(60:Int)<(p.ps.length:Int) by omega),(show (20:Int)<(p.dk.length:Int) by omega)]
   ·simp only [vv,vf,reduceCtorEq,reduceAdd,reduceEqDiff,h1,h2,h4,(show ¬(120:Int)<(p.d.size:Int) by omega),(show ¬(60:Int)<(p.ps.length:Int) by omega),(show ¬(20:Int)<(p.dk.length:Int) by omega)]
def OM (p:Par):List Tree:=if FY p=0 then TH (DV p) else [.bool false,tI 0,.bool false,tI 0,tI 0,tI 0,tI 0,tI (FY p)]
theorem Fs {p:Par} (h:FY p=0):p.ps.length≤1000∧ -1≤p.lim∧BG p.dk=0∧(Bi p.c 0 p.d p.b p.e).2.2=0:=by
 unfold FY K4 at h;split at h
 ·omega
 ·split at h
  ·omega
  ·split at h
   ·omega
   ·rename_i h1 h2 h3;exact ⟨by omega,by omega,by omega,h⟩
theorem YV {p:Par} (hp:POk p) (h:FY p=0):0≤(DV p).dat.lost∧0≤(DV p).rep.lost∧(DV p).dat.lost+(DV p).rep.lost≤(DV p).entered∧(DV p).entered≤5000:=by have hw:=(QJ hp (Fs h).2.2.2).2.1.i;have:=hw.gd.lost;have:=hw.gr.lost;have:=hw.c1;have:=hw.small hp;omega
theorem s26P (p:Par) (hp:FY p=0→POk p):AT C 26 (FT p) (OM p):=by
 by_cases h:FY p=0
 ·have hok:=hp h;have hl:=YV hok h;have:=s26 (runP hok) p.c p.b p.e p.d p.ps p.lim p.dk (fun _=>TV hok (Fs h).2.2.2) (fun _=>by show _≤(DV p).dat.lost+(DV p).rep.lost∧(DV p).dat.lost+(DV p).rep.lost<_;omega);exact this
 ·have h0:¬K4 p.c p.b p.e p.d p.ps p.lim p.dk=0:=h;have:=s26 (W:=fun _=>False) (P1:=fun _=>False) (P2:=fun _=>False) (μ:=fun _=>0) ⟨⟨fun _ h=>h.elim,fun _ _ _ h=>h.elim⟩,⟨fun _ h=>h.elim,fun _ h=>h.elim,fun _ _ _ h=>h.elim⟩,fun _ h=>h.elim,fun _ _ h=>h.elim,fun _ _ h=>h.elim,fun _ _ h=>h.elim,fun _ _ h=>h.elim,fun _ _ h=>h.elim⟩ p.c p.b p.e p.d p.ps p.lim p.dk (fun q=>(h0 q).elim) (fun q=>(h0 q).elim);rw [if_neg h0] at this;unfold OM;rw [if_neg h];exact this
theorem s13P (p:Par) (hp:FY p=0→POk p):AT C 13 (FT p) (OM p):=by
 have k:=s26P p hp;by_cases h0:FY p=0
 ·have e:OM p=TH (DV p):=if_pos h0;rw [e] at k ⊢;unfold TH at k ⊢;unfold FT F8 at k ⊢;refine AT.of (fun n=>e13 n _ _ _ _ _ _ _ _ _ _ _ _ _) ?_;refine k.mono fun n h => ?_;simp only [Con.enc,cons_append,nil_append] at h;simp only [h,vv,vf,reduceCtorEq,reduceAdd,reduceEqDiff]
 ·have e:OM p=[.bool false,tI 0,.bool false,tI 0,tI 0,tI 0,tI 0,tI (FY p)]:=if_neg h0;rw [e] at k ⊢;unfold FT F8 at k ⊢;refine AT.of (fun n=>e13 n _ _ _ _ _ _ _ _ _ _ _ _ _) ?_;refine k.mono fun n h => ?_;simp only [Con.enc,cons_append,nil_append] at h;simp only [h,vv,vf,reduceCtorEq,reduceAdd,reduceEqDiff]
theorem P0 {p:Par} (hg:Kx p=false) (hpk:∀x∈p.ps,-9223372036854775808≤x∧x≤9223372036854775807) (h:FY p=0):POk p:=by
 obtain ⟨h1,h2,h3,h4⟩:=Fs h;have hg:=of_decide_eq_false hg;have hS:=h4;unfold Bi at hS;split at hS
 ·simp [DI] at hS
 rename_i g1;have g1:KF p.c=0:=by simpa using g1
 rw [if_neg (by omega)] at hS;split at hS
 ·simp [DI] at hS
 rw [if_neg (by omega)] at hS;split at hS
 ·simp [DI] at hS
 rename_i g2 g3;obtain ⟨c1,c2⟩:=Fi g1;unfold IL at c1;have hcl:K8 p.c.rng=p.c.rng:=by have e:(if (1048576:Int)<p.c.rng then (1048576:Int) else p.c.rng)=p.c.rng:=if_neg (by omega);unfold K8;rw [e,if_pos (by omega)]
 rw [hcl,Ad (x:=2*p.c.rng) (by omega) (by omega),Ad (x:=2*p.c.rng+1) (by omega) (by omega),Ad (x:=40*(2*p.c.rng+1)) (by omega) (by omega),Ad (x:=p.b+40*(2*p.c.rng+1)) (by omega) (by omega)] at hg;refine ⟨g1,by omega,by omega,hpk,h1,fun k k1 k2 =>.inl ?_⟩;have hk:k≤40:=by refine Classical.byContradiction fun q => ?_;have:40*(2*p.c.rng+1)≤(k-1)*(2*p.c.rng+1):=Int.mul_le_mul_of_nonneg_right (by omega) (by omega);omega
 have:((p.d.size:Int)+1)*k≤121*k:=Int.mul_le_mul_of_nonneg_right (by omega) (by omega);omega
end Ab
set_option linter.unusedVariables false
set_option linter.unusedSimpArgs false
set_option maxRecDepth 100000
namespace Ab
open Go
def exC:Con:=⟨0,1,10,60,4,5,1⟩
def exD:ByteArray:=⟨(Go.Lib.repeatL [120] 20).toArray⟩
def ex1:Par:=⟨exC,10,36,exD,[],-1,[]⟩
def ex2:Par:=⟨exC,10,36,exD,[7,0,0,0,0,0],1,[]⟩
def ex3:Par:=⟨exC,10,36,exD,[0,0,7,0,0,0],1,[]⟩
theorem ex1_out:OM ex1=[.bool true,tI 24,.bool true,tI 29,tI 19,tI 3,tI 0,tI 0]:=by kernel_rfl
theorem ex2_out:OM ex2=[.bool true,tI 40,.bool true,tI 45,tI 35,tI 5,tI 1,tI 0]:=by kernel_rfl
theorem ex3_out:OM ex3=[.bool true,tI 24,.bool true,tI 43,tI 33,tI 5,tI 1,tI 0]:=by kernel_rfl
theorem Tf:(∀h:FY ex1=0,POk ex1)∧(∀h:FY ex2=0,POk ex2)∧(∀h:FY ex3=0,POk ex3):=
 ⟨P0 (by decide +kernel) (by decide),P0 (by decide +kernel) (by decide),P0 (by decide +kernel) (by decide)⟩
theorem s25x:AT C 25 [.str (ByteArray.mk #[120]),tI 20] [.str exD]:=AT.of (g:=fun _=>some [.str exD]) (fun n=>by kernel_rfl) (Ev.of fun _=>rfl)
theorem s12:AT C 12 [] [.bool true]:=by refine AT.of (fun n=>e12 n) ?_;have a:=s26P ex1 Tf.1;have b:=s26P ex2 Tf.2.1;have c:=s26P ex3 Tf.2.2;rw [ex1_out] at a;rw [ex2_out] at b;rw [ex3_out] at c;refine (s25x.and (a.and (b.and c))).mono fun n h => ?_;obtain ⟨h1,h2,h3,h4⟩:=h;simp only [FT,F8,ex1,ex2,ex3,exC,Con.enc,Bh,map_nil,map_cons,cons_append,nil_append] at h2 h3 h4;simp only [h1,h2,h3,h4,vv,vf,reduceCtorEq,reduceAdd,reduceEqDiff,J12_1,J12_2,beq_self_eq_true,Bool.and_self]
end Ab
set_option maxRecDepth 100000
set_option linter.unusedVariables false
namespace Ab
open Go Go.Proofs
def BK:List Sh:=[Sh.i,Sh.l 10,Sh.i,Sh.i,Sh.i,Sh.l 10,Sh.i,Sh.i,Sh.l 1,Sh.i,Sh.l 2,Sh.i,Sh.i,Sh.r 4,Sh.r 5,Sh.i,Sh.i,Sh.i,Sh.i,Sh.i,Sh.i,Sh.i,Sh.i,Sh.i,Sh.s,Sh.i,Sh.i,Sh.i,Sh.l 2,Sh.i,Sh.i,Sh.i,Sh.i,Sh.l 2,Sh.s,Sh.r 0,Sh.b,Sh.i,Sh.b,Sh.i]
def CB:List OSh:=[OSh.row 9,OSh.frz 15,OSh.frz 4,OSh.frz 4,OSh.row 9,OSh.row 9,OSh.box BK]
def C9:List Sh:=[]
def BSA_3:List Sh:=[Sh.i]
def BSA_4:List Sh:=[Sh.b]
def Dh:List OSh:=[OSh.row 9,OSh.box C9,OSh.box C9,OSh.box C9,OSh.row 9,OSh.row 9,OSh.box BK,OSh.box BSA_3,OSh.box BSA_4]
def Bf:List OSh:=[OSh.row 9,OSh.box C9,OSh.box C9,OSh.box C9,OSh.row 9,OSh.row 9,OSh.box BK]
def Sr:List Sh:=[Sh.i,Sh.i,Sh.i,Sh.i,Sh.i,Sh.b,Sh.s,Sh.l 2]
def Pb:List OSh:=[OSh.row 9,OSh.box C9,OSh.box C9,OSh.box C9,OSh.row 9,OSh.row 9,OSh.box BK,OSh.box Sr]
def Dr:List OSh:=[OSh.row 9,OSh.box C9,OSh.box C9,OSh.box C9,OSh.row 9,OSh.row 9,OSh.box BK,OSh.row 8]
def Lb:List OSh:=[OSh.row 9,OSh.box C9,OSh.box C9,OSh.box C9,OSh.row 9,OSh.row 9,OSh.box BK,OSh.row 8,OSh.box Sr]
def Q0:List Sh:=[Sh.i,Sh.i,Sh.l 2,Sh.s]
def JY:List OSh:=[OSh.row 9,OSh.frz 15,OSh.frz 4,OSh.frz 4,OSh.row 9,OSh.row 9,OSh.box BK,OSh.row 8,OSh.box Q0,OSh.box Sr]
def Cd:List OSh:=[OSh.row 9,OSh.box C9,OSh.box C9,OSh.box C9,OSh.row 9,OSh.row 9,OSh.box BK,OSh.row 8,OSh.box Q0,OSh.box Sr]
def Zl:List Sh:=[Sh.i,Sh.l 10,Sh.i,Sh.i]
def La:List OSh:=[OSh.row 9,OSh.box C9,OSh.box C9,OSh.box C9,OSh.row 9,OSh.row 9,OSh.box BK,OSh.row 8,OSh.box Q0,OSh.box Sr,OSh.box Zl]
def OG:List OSh:=[OSh.row 9,OSh.box C9,OSh.box C9,OSh.box C9,OSh.row 9,OSh.row 9,OSh.box BK,OSh.row 8,OSh.box Q0]
def LZ:List OSh:=[OSh.row 9,OSh.box C9,OSh.box C9,OSh.box C9,OSh.row 9,OSh.row 9,OSh.box BK,OSh.box Zl]
def EZ:List FuncId:=[50,51,52,53,54,71,96,124,125,126,127,144]
noncomputable def J28_1 (n:Nat) (ff:Nat→Rec) (k26:KT) (p28:ST):RT:=k26 ([],rh p28 0 Dh)
noncomputable def ZL (n:Nat) (ff:Nat→Rec) (k20:KT) (p70:ST):RT:=k20 (tv [tI (cI p70 7 0),.bool (cB p70 8 0)],rh p70 0 Bf)
noncomputable def N5 (n:Nat) (ff:Nat→Rec) (p52:ST) (k20:KT) (p64:ST):RT:=AQ (.box [AV.yld 40,.t (tI (cI p52 6 29))]) (.box [AV.yld 40,.t (tI (cI p64 6 29))]) (join (ZL n ff k20) fun k71=>cnd (vB p64 0=true) (cnd ((!(cB p64 8 0))=true) (k71 ([],upd (rh p64 0 Dh) [(7,.box [.t (tI (cI p52 6 29))]),(8,.box [.t (.bool true)])])) (cnd (decide (cI p52 6 29<cI p64 7 0)=true) (k71 ([],upd (rh p64 0 Dh) [(7,.box [.t (tI (cI p52 6 29))]),(8,.box [.t (.bool true)])])) (k71 ([],rh p64 0 Dh)))) (k71 ([],rh p64 0 Dh)))
noncomputable def Vo (n:Nat) (ff:Nat→Rec) (k20:KT) (p52:ST):RT:=join (N5 n ff p52 k20) fun k65=>cnd ((cI p52 6 30==1)=true) (k65 ([.t (.bool (!(decide (cI p52 6 11≥(10000:Int)))))],rh p52 0 Dh)) (k65 ([.t (.bool false)],rh p52 0 Dh))
noncomputable def PW (n:Nat) (ff:Nat→Rec) (k20:KT) (p39:ST):RT:=bd [0,1] (AA C n 122 (ct [0,13,0,0] p39 6 4 [])) fun y51=>join (Vo n ff k20) fun k53=>cnd (gB y51 1=true) (cnd ((!(cB p39 8 0))=true) (k53 ([],upd (rh p39 0 Dh) [(7,.box [.t (tI (gI y51 0))]),(8,.box [.t (.bool true)])])) (cnd (decide (gI y51 0<cI p39 7 0)=true) (k53 ([],upd (rh p39 0 Dh) [(7,.box [.t (tI (gI y51 0))]),(8,.box [.t (.bool true)])])) (k53 ([],rh p39 0 Dh)))) (k53 ([],rh p39 0 Dh))
noncomputable def PV (n:Nat) (ff:Nat→Rec) (k20:KT) (p25:ST):RT:=bd [0,1] (AA C n 122 (ct [0,13,0,0] p25 6 0 [])) fun y38=>join (PW n ff k20) fun k40=>cnd (gB y38 1=true) (cnd ((!(cB p25 8 0))=true) (k40 ([],upd (rh p25 0 Dh) [(7,.box [.t (tI (gI y38 0))]),(8,.box [.t (.bool true)])])) (cnd (decide (gI y38 0<cI p25 7 0)=true) (k40 ([],upd (rh p25 0 Dh) [(7,.box [.t (tI (gI y38 0))]),(8,.box [.t (.bool true)])])) (k40 ([],rh p25 0 Dh)))) (k40 ([],rh p25 0 Dh))
noncomputable def ZH (n:Nat) (ff:Nat→Rec) (k20:KT) (p23:ST):RT:=cnd (AB p23 0=AI p23 6 35) (join (PV n ff k20) fun k26=>cnd (decide ((AH p23 6 35:Int)>0)=true) (cnd (AB p23 0=AI p23 6 35∧9=9∧(0:Int)≤0∧0<(AH p23 6 35:Int)) (cnd (AB p23 0=AI p23 6 35) (cnd (AB p23 0=AI p23 6 35) (Option.bind (oEs p23 0)[AL p23 6 35]? fun y27=>cnd (okI y27 0) (join (J28_1 n ff k26) fun k29=>cnd ((!(cB p23 8 0))=true) (k29 ([],upd (rh p23 0 Dh) [(7,.box [.t (tI (gI y27 0))]),(8,.box [.t (.bool true)])])) (cnd (decide (gI y27 0<cI p23 7 0)=true) (k29 ([],upd (rh p23 0 Dh) [(7,.box [.t (tI (gI y27 0))]),(8,.box [.t (.bool true)])])) (k29 ([],rh p23 0 Dh)))) none) none) none) none) (k26 ([],rh p23 0 Dh))) none
noncomputable def Vv (n:Nat) (ff:Nat→Rec) (k20:KT) (p19:ST):RT:=ff 10 (List Tree) (.fn 96 [AV.ptr 6 0]) (rh p19 0 CB) fun rs h1=>cnd (A0 C.P (Ax C.P 96) rs=true) (Db (rh p19 0 CB) h1 fun hs=>k20 (rs,hs)) none
noncomputable def Vh (n:Nat) (ff:Nat→Rec) (k20:KT) (p19:ST):RT:=join (ZH n ff k20) fun k24=>cnd (decide (cI p19 6 11≥(10000:Int))=true) (cnd (AB p19 0=AI p19 6 35) (k24 ([],upd (rh p19 0 Dh) [(6,.box (upd (rb p19 6 0 BK) [(35,.sref 0 (AI p19 6 35) (length (oEs p19 0)) 0)])),(7,.box [.t (tI 0)]),(8,.box [.t (.bool false)])])) none) (k24 ([],upd (rh p19 0 Dh) [(7,.box [.t (tI 0)]),(8,.box [.t (.bool false)])]))
theorem vC28_1 (n:Nat) (ff:Nat→Rec) (k20:KT) (p19:ST):DD C (FJ C (pcx C (AA C n)) n ff EZ 9) (pcx C (AA C n)) n 96 [AV.ptr 6 0] (rh p19 0 CB) (fun rs h1=>cnd (A0 C.P (Ax C.P 96) rs=true) (Db (rh p19 0 CB) h1 fun hs=>k20 (rs,hs)) none)=Vh n ff k20 p19:=by kernel_rfl
theorem XP (n:Nat) (k20:KT) (p19:ST):Vv n (fI C n) k20 p19=Vh n (fI C n) k20 p19:=(FR C n EZ 9 _ 96 _ _ _).trans (vC28_1 n (fI C n) k20 p19)
noncomputable def Vn (n:Nat) (ff:Nat→Rec) (k91:KT) (p92:ST):RT:=cnd ((!(vB p92 0))=true) (k91 ([.t (.bool true)],rh p92 0 Bf)) (k91 ([.t (.bool ((cI p92 6 29) != cI p92 6 15))],rh p92 0 Bf))
noncomputable def Vm (n:Nat) (ff:Nat→Rec) (k89:KT) (p90:ST):RT:=cnd (vB p90 0=true) (k89 ([],rh p90 0 Bf)) (bd [0,0,0,0,0,0,0,0,2,0,0,0,5,0,0,12,0] (AA C n 149 (ct kS p90 6 16 [tI (cI p90 6 15)])) fun y98=>cnd (((gI y98 16) != 0)=true) (k89 ([],upd (rh p90 0 Bf) [(6,.box (upd (rb p90 6 0 BK) [(29,.t (tI 0)),(30,.t (tI 3))]))])) (cnd (length (gL y98 15)=0∧AL p90 6 35+AH p90 6 35<length (oEs p90 0)) (cnd (AB p90 0=AI p90 6 35) (k89 ([],upd (rh p90 0 Bf) [(6,.box (upd (rb p90 6 0 BK) [(16,.t (tI (gI y98 0))),(17,.t (tI (gI y98 1))),(18,.t (tI (gI y98 2))),(19,.t (tI (gI y98 3))),(20,.t (tI (gI y98 4))),(21,.t (tI (gI y98 5))),(22,.t (tI (gI y98 6))),(23,.t (tI (gI y98 7))),(24,.t (.str (gS y98 8))),(25,.t (tI (gI y98 9))),(26,.t (tI (gI y98 10))),(27,.t (tI (gI y98 11))),(28,.t (.sl 2 (gL y98 12))),(29,.t (tI (gI y98 13))),(30,.t (tI (gI y98 14)))]))])) none) (cnd (AB p90 0=AI p90 6 35∧(9=9∨9=0)∧AL p90 6 35+AH p90 6 35≤length (oEs p90 0)∧AH p90 6 35+length (gL y98 15)≤1073741824) (k89 ([],upd (rh p90 0 Bf) [(0,.row false (AI p90 6 35+1) 9 (take (AH p90 6 35) (drop (AL p90 6 35) (oEs p90 0))++gL y98 15)),(6,.box (upd (rb p90 6 0 BK) [(16,.t (tI (gI y98 0))),(17,.t (tI (gI y98 1))),(18,.t (tI (gI y98 2))),(19,.t (tI (gI y98 3))),(20,.t (tI (gI y98 4))),(21,.t (tI (gI y98 5))),(22,.t (tI (gI y98 6))),(23,.t (tI (gI y98 7))),(24,.t (.str (gS y98 8))),(25,.t (tI (gI y98 9))),(26,.t (tI (gI y98 10))),(27,.t (tI (gI y98 11))),(28,.t (.sl 2 (gL y98 12))),(29,AV.t (tI (gI y98 13))),(30,.t (tI (gI y98 14))),(35,.sref 0 (AI p90 6 35+1) 0 (AH p90 6 35+length (gL y98 15)))]))])) none)))
noncomputable def Zd (n:Nat) (ff:Nat→Rec) (k89:KT) (p88:ST):RT:=ff 10 (List Tree) (.fn 127 [AV.ptr 6 0]) (rh p88 0 CB) fun rs h1=>cnd (A0 C.P (Ax C.P 127) rs=true) (Db (rh p88 0 CB) h1 fun hs=>k89 (rs,hs)) none
noncomputable def Sj (n:Nat) (ff:Nat→Rec) (k89:KT) (p88:ST):RT:=join (Vm n ff k89) fun k91=>join (Vn n ff k91) fun k93=>cnd ((cI p88 6 30==1)=true) (k93 ([.t (.bool (!(decide (cI p88 6 11≥(10000:Int)))))],rh p88 0 Bf)) (k93 ([.t (.bool false)],rh p88 0 Bf))
theorem vC28_2 (n:Nat) (ff:Nat→Rec) (k89:KT) (p88:ST):DD C (FJ C (pcx C (AA C n)) n ff EZ 9) (pcx C (AA C n)) n 127 [AV.ptr 6 0] (rh p88 0 CB) (fun rs h1=>cnd (A0 C.P (Ax C.P 127) rs=true) (Db (rh p88 0 CB) h1 fun hs=>k89 (rs,hs)) none)=Sj n ff k89 p88:=by kernel_rfl
theorem Sx (n:Nat) (k89:KT) (p88:ST):Zd n (fI C n) k89 p88=Sj n (fI C n) k89 p88:=(FR C n EZ 9 _ 127 _ _ _).trans (vC28_2 n (fI C n) k89 p88)
noncomputable def IA (n:Nat) (ff:Nat→Rec) (k87:KT) (p86 p99:ST):RT:=k87 ([.t (tI (w64 (vI p86 0+1)))],rh p99 0 Bf)
noncomputable def Qm (n:Nat) (ff:Nat→Rec) (p108:ST) (k107:KT) (p130:ST):RT:=cnd (vB p130 0=true) (cnd (AB p130 7=AB p108 7+1∧8≤8) (Option.bind (oEs p130 7)[0]? fun y132=>k107 ([.rptr 7 (AB p108 7+1) 0 0,.t (.bool false)],upd (rh p130 0 Dr) [(7,.row false (AB p108 7+1) 8 (List.set (oEs p130 7) 0 (zt kG []++drop 8 y132)))])) none) (bd [0,13,0,0,0,0,0,0,0,0,0,1,2,5,0] (AA C n 158 (ct [0,13,0,0] p130 6 4 [])) fun y133=>cnd (AB p130 7=AB p108 7+1∧8≤8) (Option.bind (oEs p130 7)[0]? fun y134=>k107 ([.rptr 7 (AB p108 7+1) 0 0,.t (.bool true)],upd (rh p130 0 Dr) [(6,.box (upd (rb p130 6 0 BK) [(4,.t (tI (gI y133 0))),(5,.t (.sl 10 (gL y133 1))),(6,.t (tI (gI y133 2))),(7,.t (tI (gI y133 3)))])),(7,.row false (AB p108 7+1) 8 (List.set (oEs p130 7) 0 (gt kG y133 6 []++drop 8 y134)))])) none)
noncomputable def N7 (n:Nat) (ff:Nat→Rec) (p106:ST) (k107:KT) (p108:ST):RT:=cnd (AB p108 7=CQ p106 0) (Option.bind (oEs p108 7)[0]? fun y128=>bk kG 0 y128 (cnd (AB p108 7+1=AB p108 7+1∧8≤8) (bd [0,1] (AA C n 122 (ct [0,13,0,0] p108 6 4 [])) fun y129=>join (Qm n ff p108 k107) fun k131=>cnd ((!(gB y129 1))=true) (k131 ([.t (.bool true)],upd (rh p108 0 Lb) [(7,.row false (AB p108 7+1) 8 [[tI (gI y128 0),tI (gI y128 1),tI (gI y128 2),tI (gI y128 3),tI (gI y128 4),.bool (gB y128 5),.str (gS y128 6),.sl 2 (gL y128 7)]]),(8,.box (tv (zt kG [])))])) (k131 ([.t (.bool ((gI y129 0) != cI p108 6 15))],upd (rh p108 0 Lb) [(7,.row false (AB p108 7+1) 8 [[tI (gI y128 0),tI (gI y128 1),tI (gI y128 2),tI (gI y128 3),tI (gI y128 4),.bool (gB y128 5),.str (gS y128 6),.sl 2 (gL y128 7)]]),(8,.box (tv (zt kG [])))]))) none)) none
noncomputable def FO (n:Nat) (ff:Nat→Rec) (k102:KT) (p106:ST) (k107:KT):RT:=cnd (vB p106 1=true) (join (N7 n ff p106 k107) fun k109=>cnd (decide (cI p106 6 15<cI p106 6 26)=true) (k109 ([],rh p106 0 Dr)) (cnd (AB p106 7=CQ p106 0) (Option.bind (oEs p106 7)[0]? fun y110=>bk kG 0 y110 (bd [0,0,0,0,0,0,0,0,2,0,0,0,5,0,0,12,0] (AA C n 148 (ct kS p106 6 16 (tI (cI p106 6 15)::gt kG y110 0 []))) fun y111=>cnd (((gI y111 16) != 0)=true) (k109 ([],rh p106 0 Dr)) (cnd (length (gL y111 15)=0∧AL p106 6 35+AH p106 6 35<length (oEs p106 0)) (cnd (AB p106 0=AI p106 6 35) (cnd ((!(cB p106 6 38))=true) (cnd ((gI y111 14==2)=true) (k109 ([],upd (rh p106 0 Dr) [(6,.box (upd (rb p106 6 0 BK) [(16,.t (tI (gI y111 0))),(17,.t (tI (gI y111 1))),(18,.t (tI (gI y111 2))),(19,.t (tI (gI y111 3))),(20,.t (tI (gI y111 4))),(21,.t (tI (gI y111 5))),(22,.t (tI (gI y111 6))),(23,.t (tI (gI y111 7))),(24,.t (.str (gS y111 8))),(25,.t (tI (gI y111 9))),(26,AV.t (tI (gI y111 10))),(27,.t (tI (gI y111 11))),(28,.t (.sl 2 (gL y111 12))),(29,.t (tI (gI y111 13))),(30,.t (tI (gI y111 14))),(38,.t (.bool true)),(39,.t (tI (cI p106 6 15)))]))])) (k109 ([],upd (rh p106 0 Dr) [(6,.box (upd (rb p106 6 0 BK) [(16,.t (tI (gI y111 0))),(17,.t (tI (gI y111 1))),(18,.t (tI (gI y111 2))),(19,.t (tI (gI y111 3))),(20,.t (tI (gI y111 4))),(21,.t (tI (gI y111 5))),(22,.t (tI (gI y111 6))),(23,.t (tI (gI y111 7))),(24,.t (.str (gS y111 8))),(25,.t (tI (gI y111 9))),(26,AV.t (tI (gI y111 10))),(27,.t (tI (gI y111 11))),(28,.t (.sl 2 (gL y111 12))),(29,.t (tI (gI y111 13))),(30,.t (tI (gI y111 14)))]))]))) (k109 ([],upd (rh p106 0 Dr) [(6,.box (upd (rb p106 6 0 BK) [(16,.t (tI (gI y111 0))),(17,.t (tI (gI y111 1))),(18,.t (tI (gI y111 2))),(19,.t (tI (gI y111 3))),(20,.t (tI (gI y111 4))),(21,.t (tI (gI y111 5))),(22,.t (tI (gI y111 6))),(23,.t (tI (gI y111 7))),(24,.t (.str (gS y111 8))),(25,.t (tI (gI y111 9))),(26,.t (tI (gI y111 10))),(27,.t (tI (gI y111 11))),(28,.t (.sl 2 (gL y111 12))),(29,.t (tI (gI y111 13))),(30,.t (tI (gI y111 14)))]))]))) none) (cnd (AB p106 0=AI p106 6 35∧(9=9∨9=0)∧AL p106 6 35+AH p106 6 35≤length (oEs p106 0)∧AH p106 6 35+length (gL y111 15)≤1073741824) (cnd ((!(cB p106 6 38))=true) (cnd ((gI y111 14==2)=true) (k109 ([],upd (rh p106 0 Dr) [(0,.row false (AI p106 6 35+1) 9 (take (AH p106 6 35) (drop (AL p106 6 35) (oEs p106 0))++gL y111 15)),(6,.box (upd (rb p106 6 0 BK) [(16,.t (tI (gI y111 0))),(17,.t (tI (gI y111 1))),(18,.t (tI (gI y111 2))),(19,.t (tI (gI y111 3))),(20,.t (tI (gI y111 4))),(21,.t (tI (gI y111 5))),(22,.t (tI (gI y111 6))),(23,.t (tI (gI y111 7))),(24,.t (.str (gS y111 8))),(25,.t (tI (gI y111 9))),(26,.t (tI (gI y111 10))),(27,.t (tI (gI y111 11))),(28,.t (.sl 2 (gL y111 12))),(29,.t (tI (gI y111 13))),(30,.t (tI (gI y111 14))),(35,.sref 0 (AI p106 6 35+1) 0 (AH p106 6 35+length (gL y111 15))),(38,.t (.bool true)),(39,.t (tI (cI p106 6 15)))]))])) (k109 ([],upd (rh p106 0 Dr) [(0,.row false (AI p106 6 35+1) 9 (take (AH p106 6 35) (drop (AL p106 6 35) (oEs p106 0))++gL y111 15)),(6,.box (upd (rb p106 6 0 BK) [(16,.t (tI (gI y111 0))),(17,.t (tI (gI y111 1))),(18,.t (tI (gI y111 2))),(19,.t (tI (gI y111 3))),(20,.t (tI (gI y111 4))),(21,.t (tI (gI y111 5))),(22,.t (tI (gI y111 6))),(23,.t (tI (gI y111 7))),(24,.t (.str (gS y111 8))),(25,.t (tI (gI y111 9))),(26,.t (tI (gI y111 10))),(27,.t (tI (gI y111 11))),(28,.t (.sl 2 (gL y111 12))),(29,.t (tI (gI y111 13))),(30,.t (tI (gI y111 14))),(35,.sref 0 (AI p106 6 35+1) 0 (AH p106 6 35+length (gL y111 15)))]))]))) (k109 ([],upd (rh p106 0 Dr) [(0,.row false (AI p106 6 35+1) 9 (take (AH p106 6 35) (drop (AL p106 6 35) (oEs p106 0))++gL y111 15)),(6,.box (upd (rb p106 6 0 BK) [(16,.t (tI (gI y111 0))),(17,.t (tI (gI y111 1))),(18,.t (tI (gI y111 2))),(19,.t (tI (gI y111 3))),(20,.t (tI (gI y111 4))),(21,.t (tI (gI y111 5))),(22,.t (tI (gI y111 6))),(23,.t (tI (gI y111 7))),(24,.t (.str (gS y111 8))),(25,.t (tI (gI y111 9))),(26,.t (tI (gI y111 10))),(27,.t (tI (gI y111 11))),(28,.t (.sl 2 (gL y111 12))),(29,.t (tI (gI y111 13))),(30,.t (tI (gI y111 14))),(35,.sref 0 (AI p106 6 35+1) 0 (AH p106 6 35+length (gL y111 15)))]))]))) none)))) none)) (k102 ([],rh p106 0 Bf))
noncomputable def Ql (n:Nat) (ff:Nat→Rec) (k102:KT) (p104:ST):RT:=cnd (vB p104 0=true) (AJ (FO n ff k102) n ([.rptr 7 0 0 0,.t (.bool false)],upd (rh p104 0 Dr) [(7,.row false 0 8 [[tI 0,tI 0,tI 0,tI 0,tI 0,.bool false,.str B0,.sl 2 []]])])) (bd [0,13,0,0,0,0,0,0,0,0,0,1,2,5,0] (AA C n 158 (ct [0,13,0,0] p104 6 4 [])) fun y135=>AJ (FO n ff k102) n ([.rptr 7 0 0 0,.t (.bool true)],upd (rh p104 0 Dr) [(6,.box (upd (rb p104 6 0 BK) [(4,.t (tI (gI y135 0))),(5,.t (.sl 10 (gL y135 1))),(6,.t (tI (gI y135 2))),(7,.t (tI (gI y135 3)))])),(7,.row false 0 8 [[tI (gI y135 6),tI (gI y135 7),tI (gI y135 8),tI (gI y135 9),tI (gI y135 10),.bool (gB y135 11),.str (gS y135 12),.sl 2 (gL y135 13)]])]))
noncomputable def Zc (n:Nat) (ff:Nat→Rec) (k102:KT) (p101:ST):RT:=ff 10 (List Tree) (.fn 126 [AV.ptr 6 0]) (rh p101 0 CB) fun rs h1=>cnd (A0 C.P (Ax C.P 126) rs=true) (Db (rh p101 0 CB) h1 fun hs=>k102 (rs,hs)) none
noncomputable def Si (n:Nat) (ff:Nat→Rec) (k102:KT) (p101:ST):RT:=bd [0,1] (AA C n 122 (ct [0,13,0,0] p101 6 4 [])) fun y103=>join (Ql n ff k102) fun k105=>cnd ((!(gB y103 1))=true) (k105 ([.t (.bool true)],upd (rh p101 0 Pb) [(7,.box (tv (zt kG [])))])) (k105 ([.t (.bool ((gI y103 0) != cI p101 6 15))],upd (rh p101 0 Pb) [(7,.box (tv (zt kG [])))]))
theorem vC28_3 (n:Nat) (ff:Nat→Rec) (k102:KT) (p101:ST):DD C (FJ C (pcx C (AA C n)) n ff EZ 9) (pcx C (AA C n)) n 126 [AV.ptr 6 0] (rh p101 0 CB) (fun rs h1=>cnd (A0 C.P (Ax C.P 126) rs=true) (Db (rh p101 0 CB) h1 fun hs=>k102 (rs,hs)) none)=Si n ff k102 p101:=by kernel_rfl
theorem Sw (n:Nat) (k102:KT) (p101:ST):Zc n (fI C n) k102 p101=Si n (fI C n) k102 p101:=(FR C n EZ 9 _ 126 _ _ _).trans (vC28_3 n (fI C n) k102 p101)
noncomputable def Du (n:Nat) (ff:Nat→Rec) (p181:ST) (k182:KT) (y189:List Tree) (p194:ST):RT:=cnd (vB p194 0=true) (AQ (.box [AV.yld 40,.t (tI (cI p181 6 4)),.t (.sl 10 (cL p181 6 5)),.t (tI (cI p181 6 6)),.t (tI (cI p181 6 7))]) (.box [AV.yld 40,.t (tI (cI p194 6 4)),.t (.sl 10 (cL p194 6 5)),.t (tI (cI p194 6 6)),.t (tI (cI p194 6 7))]) (AQ (.box [AV.yld 40,.t (tI (cI p181 6 4))]) (.box [AV.yld 40,.t (tI (cI p194 6 4))]) (AQ (.row false (AB p181 4) 9 (oEs p181 4)) (.row false (AB p194 4) 9 (oEs p194 4)) (AQ (.row false (AB p181 5) 9 (oEs p181 5)) (.row false (AB p194 5) 9 (oEs p194 5)) (AQ (.row false (AB p181 0) 9 (oEs p181 0)) (.row false (AB p194 0) 9 (oEs p194 0)) (bd [0,13,0,0,0] (AA C n 156 (ct [0,13,0,0] p181 6 4 [tI (vI p181 3),tI (aI p181 4 0),tI (aI p181 4 1),tI (aI p181 4 2),tI (aI p181 4 3),tI (aI p181 4 4),.bool (aB p181 4 5),.str (aS p181 4 6),.sl 2 (aL p181 4 7),.sl 1 [[tI (cI p181 6 4)]]])) fun y196=>cnd (((gI y196 4) != 0)=true) (k182 ([],rh p194 0 Cd)) (cnd (AB p194 5=AI p194 6 14∧(9=9∨9=0)∧AL p194 6 14+AH p194 6 14≤length (oEs p194 5)∧AH p194 6 14+1≤1073741824) (k182 ([],upd (rh p194 0 Cd) [(5,.row false (AI p194 6 14+1) 9 (take (AH p194 6 14) (drop (AL p194 6 14) (oEs p194 5))++[[tI (vI p181 3),tI (aI p181 4 0),tI (aI p181 4 1),tI (aI p181 4 2),tI (aI p181 4 3),tI (aI p181 4 4),Tree.bool (aB p181 4 5),.str (aS p181 4 6),.sl 2 (aL p181 4 7)]])),(6,.box (upd (rb p194 6 0 BK) [(4,.t (tI (gI y196 0))),(5,.t (.sl 10 (gL y196 1))),(6,.t (tI (gI y196 2))),(7,.t (tI (gI y196 3))),(11,.t (tI (w64 (cI p194 6 11+1)))),(14,.sref 5 (AI p194 6 14+1) 0 (AH p194 6 14+1))]))])) none))))))) (AQ (.box [AV.yld 40,.t (tI (cI p181 6 4)),.t (.sl 10 (cL p181 6 5)),.t (tI (cI p181 6 6)),.t (tI (cI p181 6 7))]) (.box [AV.yld 40,.t (tI (cI p194 6 4)),.t (.sl 10 (cL p194 6 5)),.t (tI (cI p194 6 6)),.t (tI (cI p194 6 7))]) (AQ (.box [AV.yld 40,.t (tI (cI p181 6 4))]) (.box [AV.yld 40,.t (tI (cI p194 6 4))]) (AQ (.row false (AB p181 4) 9 (oEs p181 4)) (.row false (AB p194 4) 9 (oEs p194 4)) (AQ (.row false (AB p181 5) 9 (oEs p181 5)) (.row false (AB p194 5) 9 (oEs p194 5)) (AQ (.row false (AB p181 0) 9 (oEs p181 0)) (.row false (AB p194 0) 9 (oEs p194 0)) (bd [0,13,0,0,0] (AA C n 156 (ct [0,13,0,0] p181 6 4 [tI (vI p181 3),tI (aI p181 4 0),tI (aI p181 4 1),tI (aI p181 4 2),tI (aI p181 4 3),tI (aI p181 4 4),.bool (aB p181 4 5),.str (aS p181 4 6),.sl 2 (aL p181 4 7),.sl 1 (gL y189 0)])) fun y197=>cnd (((gI y197 4) != 0)=true) (k182 ([],upd (rh p194 0 Cd) [(6,.box (upd (rb p194 6 0 BK) [(12,.t (tI (w64 (cI p194 6 12+1))))]))])) (cnd (AB p194 5=AI p194 6 14∧(9=9∨9=0)∧AL p194 6 14+AH p194 6 14≤length (oEs p194 5)∧AH p194 6 14+1≤1073741824) (k182 ([],upd (rh p194 0 Cd) [(5,.row false (AI p194 6 14+1) 9 (take (AH p194 6 14) (drop (AL p194 6 14) (oEs p194 5))++[[tI (vI p181 3),tI (aI p181 4 0),tI (aI p181 4 1),tI (aI p181 4 2),tI (aI p181 4 3),tI (aI p181 4 4),.bool (aB p181 4 5),.str (aS p181 4 6),.sl 2 (aL p181 4 7)]])),(6,.box (upd (rb p194 6 0 BK) [(4,.t (tI (gI y197 0))),(5,.t (.sl 10 (gL y197 1))),(6,.t (tI (gI y197 2))),(7,.t (tI (gI y197 3))),(11,.t (tI (w64 (cI p194 6 11+1)))),(12,.t (tI (w64 (cI p194 6 12+1)))),(14,.sref 5 (AI p194 6 14+1) 0 (AH p194 6 14+1))]))])) none)))))))
noncomputable def H9 (n:Nat) (ff:Nat→Rec) (p181:ST) (y189:List Tree) (k182:KT) (p190:ST):RT:=cnd (vB p190 0=true) (AQ (.box [AV.yld 40,.t (tI (cI p181 6 4)),.t (.sl 10 (cL p181 6 5)),.t (tI (cI p181 6 6)),.t (tI (cI p181 6 7))]) (.box [AV.yld 40,.t (tI (cI p190 6 4)),.t (.sl 10 (cL p190 6 5)),.t (tI (cI p190 6 6)),.t (tI (cI p190 6 7))]) (AQ (.box [AV.yld 40,.t (tI (cI p181 6 4))]) (.box [AV.yld 40,.t (tI (cI p190 6 4))]) (AQ (.row false (AB p181 4) 9 (oEs p181 4)) (.row false (AB p190 4) 9 (oEs p190 4)) (AQ (.row false (AB p181 5) 9 (oEs p181 5)) (.row false (AB p190 5) 9 (oEs p190 5)) (AQ (.row false (AB p181 0) 9 (oEs p181 0)) (.row false (AB p190 0) 9 (oEs p190 0)) (bd [0,13,0,0,0] (AA C n 156 (ct [0,13,0,0] p181 6 4 [tI (vI p181 3),tI (aI p181 4 0),tI (aI p181 4 1),tI (aI p181 4 2),tI (aI p181 4 3),tI (aI p181 4 4),.bool (aB p181 4 5),.str (aS p181 4 6),.sl 2 (aL p181 4 7),.sl 1 (gL y189 0)])) fun y193=>cnd (((gI y193 4) != 0)=true) (k182 ([],rh p190 0 Cd)) (cnd (AB p190 5=AI p190 6 14∧(9=9∨9=0)∧AL p190 6 14+AH p190 6 14≤length (oEs p190 5)∧AH p190 6 14+1≤1073741824) (k182 ([],upd (rh p190 0 Cd) [(5,.row false (AI p190 6 14+1) 9 (take (AH p190 6 14) (drop (AL p190 6 14) (oEs p190 5))++[[tI (vI p181 3),tI (aI p181 4 0),tI (aI p181 4 1),tI (aI p181 4 2),tI (aI p181 4 3),tI (aI p181 4 4),.bool (aB p181 4 5),.str (aS p181 4 6),.sl 2 (aL p181 4 7)]])),(6,.box (upd (rb p190 6 0 BK) [(4,.t (tI (gI y193 0))),(5,.t (.sl 10 (gL y193 1))),(6,.t (tI (gI y193 2))),(7,.t (tI (gI y193 3))),(11,.t (tI (w64 (cI p190 6 11+1)))),(14,.sref 5 (AI p190 6 14+1) 0 (AH p190 6 14+1))]))])) none))))))) (join (Du n ff p181 k182 y189) fun k195=>cnd (decide (cI p190 6 9≥(0:Int))=true) (k195 ([.t (.bool (decide (cI p190 6 12≥cI p190 6 9)))],rh p190 0 La)) (k195 ([.t (.bool false)],rh p190 0 La)))
noncomputable def H8 (n:Nat) (ff:Nat→Rec) (p181:ST) (y202:List Tree) (k182:KT) (p203:ST):RT:=cnd (vB p203 0=true) (AQ (.box [AV.yld 40,.t (tI (cI p181 6 4)),.t (.sl 10 (cL p181 6 5)),.t (tI (cI p181 6 6)),.t (tI (cI p181 6 7))]) (.box [AV.yld 40,.t (tI (cI p203 6 4)),.t (.sl 10 (cL p203 6 5)),.t (tI (cI p203 6 6)),.t (tI (cI p203 6 7))]) (AQ (.box [AV.yld 40,.t (tI (cI p181 6 4))]) (.box [AV.yld 40,.t (tI (cI p203 6 4))]) (AQ (.row false (AB p181 4) 9 (oEs p181 4)) (.row false (AB p203 4) 9 (oEs p203 4)) (AQ (.row false (AB p181 5) 9 (oEs p181 5)) (.row false (AB p203 5) 9 (oEs p203 5)) (AQ (.row false (AB p181 0) 9 (oEs p181 0)) (.row false (AB p203 0) 9 (oEs p203 0)) (bd [0,13,0,0,0] (AA C n 156 (ct [0,13,0,0] p181 6 4 [tI (vI p181 3),tI (aI p181 4 0),tI (aI p181 4 1),tI (aI p181 4 2),tI (aI p181 4 3),tI (aI p181 4 4),.bool (aB p181 4 5),.str (aS p181 4 6),.sl 2 (aL p181 4 7),.sl 1 (gL y202 0)])) fun y206=>cnd (((gI y206 4) != 0)=true) (k182 ([],rh p203 0 Cd)) (cnd (AB p203 5=AI p203 6 14∧(9=9∨9=0)∧AL p203 6 14+AH p203 6 14≤length (oEs p203 5)∧AH p203 6 14+1≤1073741824) (k182 ([],upd (rh p203 0 Cd) [(5,.row false (AI p203 6 14+1) 9 (take (AH p203 6 14) (drop (AL p203 6 14) (oEs p203 5))++[[tI (vI p181 3),tI (aI p181 4 0),tI (aI p181 4 1),tI (aI p181 4 2),tI (aI p181 4 3),tI (aI p181 4 4),.bool (aB p181 4 5),.str (aS p181 4 6),.sl 2 (aL p181 4 7)]])),(6,.box (upd (rb p203 6 0 BK) [(4,.t (tI (gI y206 0))),(5,.t (.sl 10 (gL y206 1))),(6,.t (tI (gI y206 2))),(7,.t (tI (gI y206 3))),(11,.t (tI (w64 (cI p203 6 11+1)))),(14,.sref 5 (AI p203 6 14+1) 0 (AH p203 6 14+1))]))])) none))))))) (join (Du n ff p181 k182 y202) fun k208=>cnd (decide (cI p203 6 9≥(0:Int))=true) (k208 ([.t (.bool (decide (cI p203 6 12≥cI p203 6 9)))],rh p203 0 Cd)) (k208 ([.t (.bool false)],rh p203 0 Cd)))
noncomputable def Zb (n:Nat) (ff:Nat→Rec) (k182:KT) (p181:ST):RT:=ff 9 (List Tree) (.fn 144 [AV.ptr 6 0,AV.ptr 6 4,.t (tI 1),.t (tI (vI p181 3)),AV.agg (tv [tI (aI p181 4 0),tI (aI p181 4 1),tI (aI p181 4 2),tI (aI p181 4 3),tI (aI p181 4 4),.bool (aB p181 4 5),.str (aS p181 4 6),.sl 2 (aL p181 4 7)])]) (rh p181 0 JY) fun rs h1=>cnd (A0 C.P (Ax C.P 144) rs=true) (Db (rh p181 0 JY) h1 fun hs=>k182 (rs,hs)) none
noncomputable def H3 (n:Nat) (ff:Nat→Rec) (k182:KT) (p181:ST):RT:=cnd (decide (cI p181 6 11≥(10000:Int))=true) (k182 ([],rh p181 0 Cd)) (both (bd [1] (AA C n 175 [.sl 2 (cL p181 6 10),tI (vI p181 3)]) fun y185=>cnd (gB y185 0=true) (AQ (.box [AV.yld 40,.t (tI (cI p181 6 4)),.t (.sl 10 (cL p181 6 5)),.t (tI (cI p181 6 6)),.t (tI (cI p181 6 7))]) (.box [AV.yld 40,.t (tI (cI p181 6 4)),.t (.sl 10 (cL p181 6 5)),.t (tI (cI p181 6 6)),.t (tI (cI p181 6 7))]) (AQ (.box [AV.yld 40,.t (tI (cI p181 6 4))]) (.box [AV.yld 40,.t (tI (cI p181 6 4))]) (AQ (.row false (AB p181 4) 9 (oEs p181 4)) (.row false (AB p181 4) 9 (oEs p181 4)) (AQ (.row false (AB p181 5) 9 (oEs p181 5)) (.row false (AB p181 5) 9 (oEs p181 5)) (AQ (.row false (AB p181 0) 9 (oEs p181 0)) (.row false (AB p181 0) 9 (oEs p181 0)) (bd [0,13,0,0,0] (AA C n 156 (ct [0,13,0,0] p181 6 4 [tI (vI p181 3),tI (aI p181 4 0),tI (aI p181 4 1),tI (aI p181 4 2),tI (aI p181 4 3),tI (aI p181 4 4),.bool (aB p181 4 5),.str (aS p181 4 6),.sl 2 (aL p181 4 7),.sl 1 []])) fun y186=>cnd (((gI y186 4) != 0)=true) (k182 ([],rh p181 0 Cd)) (cnd (AB p181 5=AI p181 6 14∧(9=9∨9=0)∧AL p181 6 14+AH p181 6 14≤length (oEs p181 5)∧AH p181 6 14+1≤1073741824) (k182 ([],upd (rh p181 0 Cd) [(5,.row false (AI p181 6 14+1) 9 (take (AH p181 6 14) (drop (AL p181 6 14) (oEs p181 5))++[[tI (vI p181 3),tI (aI p181 4 0),tI (aI p181 4 1),tI (aI p181 4 2),tI (aI p181 4 3),tI (aI p181 4 4),.bool (aB p181 4 5),.str (aS p181 4 6),.sl 2 (aL p181 4 7)]])),(6,.box (upd (rb p181 6 0 BK) [(4,.t (tI (gI y186 0))),(5,.t (.sl 10 (gL y186 1))),(6,.t (tI (gI y186 2))),(7,.t (tI (gI y186 3))),(11,.t (tI (w64 (cI p181 6 11+1)))),(14,.sref 5 (AI p181 6 14+1) 0 (AH p181 6 14+1))]))])) none))))))) (cnd (((length (cL p181 6 8):Int)==0)=true) (AQ (.box [AV.yld 40,.t (tI (cI p181 6 4)),.t (.sl 10 (cL p181 6 5)),.t (tI (cI p181 6 6)),.t (tI (cI p181 6 7))]) (.box [AV.yld 40,.t (tI (cI p181 6 4)),.t (.sl 10 (cL p181 6 5)),.t (tI (cI p181 6 6)),.t (tI (cI p181 6 7))]) (AQ (.box [AV.yld 40,.t (tI (cI p181 6 4))]) (.box [AV.yld 40,.t (tI (cI p181 6 4))]) (AQ (.row false (AB p181 4) 9 (oEs p181 4)) (.row false (AB p181 4) 9 (oEs p181 4)) (AQ (.row false (AB p181 5) 9 (oEs p181 5)) (.row false (AB p181 5) 9 (oEs p181 5)) (AQ (.row false (AB p181 0) 9 (oEs p181 0)) (.row false (AB p181 0) 9 (oEs p181 0)) (bd [0,13,0,0,0] (AA C n 156 (ct [0,13,0,0] p181 6 4 [tI (vI p181 3),tI (aI p181 4 0),tI (aI p181 4 1),tI (aI p181 4 2),tI (aI p181 4 3),tI (aI p181 4 4),.bool (aB p181 4 5),.str (aS p181 4 6),.sl 2 (aL p181 4 7),.sl 1 [[tI (cI p181 6 4)]]])) fun y187=>cnd (((gI y187 4) != 0)=true) (k182 ([],rh p181 0 Cd)) (cnd (AB p181 5=AI p181 6 14∧(9=9∨9=0)∧AL p181 6 14+AH p181 6 14≤length (oEs p181 5)∧AH p181 6 14+1≤1073741824) (k182 ([],upd (rh p181 0 Cd) [(5,.row false (AI p181 6 14+1) 9 (take (AH p181 6 14) (drop (AL p181 6 14) (oEs p181 5))++[[tI (vI p181 3),tI (aI p181 4 0),tI (aI p181 4 1),tI (aI p181 4 2),tI (aI p181 4 3),tI (aI p181 4 4),.bool (aB p181 4 5),.str (aS p181 4 6),.sl 2 (aL p181 4 7)]])),(6,.box (upd (rb p181 6 0 BK) [(4,.t (tI (gI y187 0))),(5,.t (.sl 10 (gL y187 1))),(6,.t (tI (gI y187 2))),(7,.t (tI (gI y187 3))),(11,.t (tI (w64 (cI p181 6 11+1)))),(14,.sref 5 (AI p181 6 14+1) 0 (AH p181 6 14+1))]))])) none))))))) (cnd ((length (cL p181 6 8):Int)=0) none (cnd (1=1∧0≤tmod (cI p181 6 11) (length (cL p181 6 8):Int)) (Option.bind (cL p181 6 8)[toNat (tmod (cI p181 6 11) (length (cL p181 6 8):Int))]? fun y188=>cnd (okI y188 0) (bd [4,0] (AA C n 176 [tI (gI y188 0),tI (cI p181 6 4)]) fun y189=>join (H9 n ff p181 y189 k182) fun k191=>cnd (decide ((length (gL y189 0):Int)>0)=true) (Option.bind (gL y189 0)[0]? fun y192=>cnd (okI y192 0) (k191 ([.t (.bool (gI y192 0==cI p181 6 4))],upd (rh p181 0 La) [(10,.box (tv (zt [0,13,0,0] [])))])) none) (k191 ([.t (.bool false)],upd (rh p181 0 La) [(10,.box (tv (zt [0,13,0,0] [])))]))) none) none)))) (bd [1] (AA C n 175 [.sl 2 (cL p181 6 10),tI (vI p181 3)]) fun y198=>cnd (gB y198 0=true) (AQ (.box [AV.yld 40,.t (tI (cI p181 6 4)),.t (.sl 10 (cL p181 6 5)),.t (tI (cI p181 6 6)),.t (tI (cI p181 6 7))]) (.box [AV.yld 40,.t (tI (cI p181 6 4)),.t (.sl 10 (cL p181 6 5)),.t (tI (cI p181 6 6)),.t (tI (cI p181 6 7))]) (AQ (.box [AV.yld 40,.t (tI (cI p181 6 4))]) (.box [AV.yld 40,.t (tI (cI p181 6 4))]) (AQ (.row false (AB p181 4) 9 (oEs p181 4)) (.row false (AB p181 4) 9 (oEs p181 4)) (AQ (.row false (AB p181 5) 9 (oEs p181 5)) (.row false (AB p181 5) 9 (oEs p181 5)) (AQ (.row false (AB p181 0) 9 (oEs p181 0)) (.row false (AB p181 0) 9 (oEs p181 0)) (bd [0,13,0,0,0] (AA C n 156 (ct [0,13,0,0] p181 6 4 [tI (vI p181 3),tI (aI p181 4 0),tI (aI p181 4 1),tI (aI p181 4 2),tI (aI p181 4 3),tI (aI p181 4 4),.bool (aB p181 4 5),.str (aS p181 4 6),.sl 2 (aL p181 4 7),.sl 1 []])) fun y199=>cnd (((gI y199 4) != 0)=true) (k182 ([],rh p181 0 Cd)) (cnd (AB p181 5=AI p181 6 14∧(9=9∨9=0)∧AL p181 6 14+AH p181 6 14≤length (oEs p181 5)∧AH p181 6 14+1≤1073741824) (k182 ([],upd (rh p181 0 Cd) [(5,.row false (AI p181 6 14+1) 9 (take (AH p181 6 14) (drop (AL p181 6 14) (oEs p181 5))++[[tI (vI p181 3),tI (aI p181 4 0),tI (aI p181 4 1),tI (aI p181 4 2),tI (aI p181 4 3),tI (aI p181 4 4),.bool (aB p181 4 5),.str (aS p181 4 6),.sl 2 (aL p181 4 7)]])),(6,.box (upd (rb p181 6 0 BK) [(4,.t (tI (gI y199 0))),(5,.t (.sl 10 (gL y199 1))),(6,.t (tI (gI y199 2))),(7,.t (tI (gI y199 3))),(11,.t (tI (w64 (cI p181 6 11+1)))),(14,.sref 5 (AI p181 6 14+1) 0 (AH p181 6 14+1))]))])) none))))))) (cnd (((length (cL p181 6 8):Int)==0)=true) (AQ (.box [AV.yld 40,.t (tI (cI p181 6 4)),.t (.sl 10 (cL p181 6 5)),.t (tI (cI p181 6 6)),.t (tI (cI p181 6 7))]) (.box [AV.yld 40,.t (tI (cI p181 6 4)),.t (.sl 10 (cL p181 6 5)),.t (tI (cI p181 6 6)),.t (tI (cI p181 6 7))]) (AQ (.box [AV.yld 40,.t (tI (cI p181 6 4))]) (.box [AV.yld 40,.t (tI (cI p181 6 4))]) (AQ (.row false (AB p181 4) 9 (oEs p181 4)) (.row false (AB p181 4) 9 (oEs p181 4)) (AQ (.row false (AB p181 5) 9 (oEs p181 5)) (.row false (AB p181 5) 9 (oEs p181 5)) (AQ (.row false (AB p181 0) 9 (oEs p181 0)) (.row false (AB p181 0) 9 (oEs p181 0)) (bd [0,13,0,0,0] (AA C n 156 (ct [0,13,0,0] p181 6 4 [tI (vI p181 3),tI (aI p181 4 0),tI (aI p181 4 1),tI (aI p181 4 2),tI (aI p181 4 3),tI (aI p181 4 4),.bool (aB p181 4 5),.str (aS p181 4 6),.sl 2 (aL p181 4 7),.sl 1 [[tI (cI p181 6 4)]]])) fun y200=>cnd (((gI y200 4) != 0)=true) (k182 ([],rh p181 0 Cd)) (cnd (AB p181 5=AI p181 6 14∧(9=9∨9=0)∧AL p181 6 14+AH p181 6 14≤length (oEs p181 5)∧AH p181 6 14+1≤1073741824) (k182 ([],upd (rh p181 0 Cd) [(5,.row false (AI p181 6 14+1) 9 (take (AH p181 6 14) (drop (AL p181 6 14) (oEs p181 5))++[[tI (vI p181 3),tI (aI p181 4 0),tI (aI p181 4 1),tI (aI p181 4 2),tI (aI p181 4 3),tI (aI p181 4 4),.bool (aB p181 4 5),.str (aS p181 4 6),.sl 2 (aL p181 4 7)]])),(6,.box (upd (rb p181 6 0 BK) [(4,AV.t (tI (gI y200 0))),(5,.t (.sl 10 (gL y200 1))),(6,.t (tI (gI y200 2))),(7,.t (tI (gI y200 3))),(11,.t (tI (w64 (cI p181 6 11+1)))),(14,.sref 5 (AI p181 6 14+1) 0 (AH p181 6 14+1))]))])) none))))))) (cnd ((length (cL p181 6 8):Int)=0) none (cnd (1=1∧0≤tmod (cI p181 6 11) (length (cL p181 6 8):Int)) (Option.bind (cL p181 6 8)[toNat (tmod (cI p181 6 11) (length (cL p181 6 8):Int))]? fun y201=>cnd (okI y201 0) (bd [4,0] (AA C n 176 [tI (gI y201 0),tI (cI p181 6 4)]) fun y202=>join (H8 n ff p181 y202 k182) fun k204=>cnd (decide ((length (gL y202 0):Int)>0)=true) (Option.bind (gL y202 0)[0]? fun y205=>cnd (okI y205 0) (k204 ([.t (.bool (gI y205 0==cI p181 6 4))],rh p181 0 Cd)) none) (k204 ([.t (.bool false)],rh p181 0 Cd))) none) none)))))
theorem vC28_4 (n:Nat) (ff:Nat→Rec) (k182:KT) (p181:ST):DD C (FJ C (pcx C (AA C n)) n ff EZ 8) (pcx C (AA C n)) n 144 [AV.ptr 6 0,AV.ptr 6 4,.t (tI 1),.t (tI (vI p181 3)),AV.agg (tv [tI (aI p181 4 0),tI (aI p181 4 1),tI (aI p181 4 2),tI (aI p181 4 3),tI (aI p181 4 4),.bool (aB p181 4 5),.str (aS p181 4 6),.sl 2 (aL p181 4 7)])] (rh p181 0 JY) (fun rs h1=>cnd (A0 C.P (Ax C.P 144) rs=true) (Db (rh p181 0 JY) h1 fun hs=>k182 (rs,hs)) none)=H3 n ff k182 p181:=by kernel_rfl
theorem GW (n:Nat) (k182:KT) (p181:ST):Zb n (fI C n) k182 p181=H3 n (fI C n) k182 p181:=(FR C n EZ 8 _ 144 _ _ _).trans (vC28_4 n (fI C n) k182 p181)
noncomputable def T8 (n:Nat) (ff:Nat→Rec) (k179:KT) (p178 p211:ST):RT:=k179 ([.t (tI (w64 (vI p178 0+1)))],rh p211 0 OG)
noncomputable def JP (n:Nat) (ff:Nat→Rec) (y177:List Tree) (p167:ST) (k175:KT) (p178:ST) (k179:KT):RT:=cnd (decide (vI p178 0<(length (gL y177 4):Int))=true) (cnd (8=8∧0≤vI p178 0) (Option.bind (gL y177 4)[toNat (vI p178 0)]? fun y180=>bk kG 0 y180 (join (T8 n ff k179 p178) fun k212=>Zb n ff k212 ([AV.ptr 6 0,AV.ptr 6 4,.t (tI 1),.t (tI (cI p178 6 15)),AV.agg (tv (gt kG y180 0 []))],upd (rh p178 0 JY) [(1,.row true (AB p167 1) 15 (oEs p167 1)),(2,.row true (AB p167 2) 4 (oEs p167 2)),(3,.row true (AB p167 3) 4 (oEs p167 3)),(9,.box (tv (gt kG y180 0 [])))]))) none) (cnd ((!(cB p178 6 36))=true) (bd [1] (AA C n 147 (ct [0,0,5,2] p178 6 31 [])) fun y215=>cnd (gB y215 0=true) (k175 ([],upd (rh p178 0 Dr) [(6,.box (upd (rb p178 6 0 BK) [(36,AV.t (Tree.bool true)),(37,.t (tI (cI p178 6 15)))]))])) (k175 ([],rh p178 0 Dr))) (k175 ([],rh p178 0 Dr)))
noncomputable def Qk (n:Nat) (ff:Nat→Rec) (p174:ST) (k173:KT) (p224:ST):RT:=cnd (vB p224 0=true) (cnd (AB p224 7=AB p174 7+1∧8≤8) (Option.bind (oEs p224 7)[0]? fun y226=>k173 ([.rptr 7 (AB p174 7+1) 0 0,.t (.bool false)],upd (rh p224 0 Dr) [(7,.row false (AB p174 7+1) 8 (List.set (oEs p224 7) 0 (zt kG []++drop 8 y226)))])) none) (bd [0,13,0,0,0,0,0,0,0,0,0,1,2,5,0] (AA C n 158 (ct [0,13,0,0] p224 6 0 [])) fun y227=>cnd (AB p224 7=AB p174 7+1∧8≤8) (Option.bind (oEs p224 7)[0]? fun y228=>k173 ([.rptr 7 (AB p174 7+1) 0 0,.t (.bool true)],upd (rh p224 0 Dr) [(6,.box (upd (rb p224 6 0 BK) [(0,.t (tI (gI y227 0))),(1,.t (.sl 10 (gL y227 1))),(2,.t (tI (gI y227 2))),(3,.t (tI (gI y227 3)))])),(7,.row false (AB p174 7+1) 8 (List.set (oEs p224 7) 0 (gt kG y227 6 []++drop 8 y228)))])) none)
noncomputable def N6 (n:Nat) (ff:Nat→Rec) (p172:ST) (k173:KT) (p174:ST):RT:=cnd (AB p174 7=CQ p172 0) (Option.bind (oEs p174 7)[0]? fun y222=>bk kG 0 y222 (cnd (AB p174 7+1=AB p174 7+1∧8≤8) (bd [0,1] (AA C n 122 (ct [0,13,0,0] p174 6 0 [])) fun y223=>join (Qk n ff p174 k173) fun k225=>cnd ((!(gB y223 1))=true) (k225 ([.t (.bool true)],upd (rh p174 0 Lb) [(7,.row false (AB p174 7+1) 8 [[tI (gI y222 0),tI (gI y222 1),tI (gI y222 2),tI (gI y222 3),tI (gI y222 4),.bool (gB y222 5),.str (gS y222 6),.sl 2 (gL y222 7)]]),(8,.box (tv (zt kG [])))])) (k225 ([.t (.bool ((gI y223 0) != cI p174 6 15))],upd (rh p174 0 Lb) [(7,.row false (AB p174 7+1) 8 [[tI (gI y222 0),tI (gI y222 1),tI (gI y222 2),tI (gI y222 3),tI (gI y222 4),.bool (gB y222 5),.str (gS y222 6),.sl 2 (gL y222 7)]]),(8,.box (tv (zt kG [])))]))) none)) none
noncomputable def Gx (n:Nat) (ff:Nat→Rec) (p167:ST) (k168:KT) (p172:ST) (k173:KT):RT:=cnd (vB p172 1=true) (join (N6 n ff p172 k173) fun k175=>cnd (AB p172 7=CQ p172 0) (Option.bind (oEs p172 7)[0]? fun y176=>bk kG 0 y176 (bd [0,0,5,2,11,0] (AA C n 146 (ct [0,0,5,2] p172 6 31 (gt kG y176 0 []))) fun y177=>cnd (((gI y177 5) != 0)=true) (k175 ([],rh p172 0 Dr)) (AJ (JP n ff y177 p167 k175) n ([.t (tI 0)],upd (rh p172 0 OG) [(6,.box (upd (rb p172 6 0 BK) [(31,.t (tI (gI y177 0))),(32,.t (tI (gI y177 1))),(33,.t (.sl 2 (gL y177 2))),(34,.t (.str (gS y177 3)))])),(8,.box (tv (gt [0,0,5,2] y177 0 [])))])))) none) (k168 ([],rh p172 0 Bf))
noncomputable def Qj (n:Nat) (ff:Nat→Rec) (p167:ST) (k168:KT) (p170:ST):RT:=cnd (vB p170 0=true) (AJ (Gx n ff p167 k168) n ([.rptr 7 0 0 0,.t (.bool false)],upd (rh p170 0 Dr) [(7,.row false 0 8 [[tI 0,tI 0,tI 0,tI 0,tI 0,.bool false,.str B0,.sl 2 []]])])) (bd [0,13,0,0,0,0,0,0,0,0,0,1,2,5,0] (AA C n 158 (ct [0,13,0,0] p170 6 0 [])) fun y229=>AJ (Gx n ff p167 k168) n ([.rptr 7 0 0 0,.t (.bool true)],upd (rh p170 0 Dr) [(6,.box (upd (rb p170 6 0 BK) [(0,.t (tI (gI y229 0))),(1,.t (.sl 10 (gL y229 1))),(2,AV.t (tI (gI y229 2))),(3,.t (tI (gI y229 3)))])),(7,.row false 0 8 [[tI (gI y229 6),tI (gI y229 7),tI (gI y229 8),tI (gI y229 9),tI (gI y229 10),.bool (gB y229 11),.str (gS y229 12),.sl 2 (gL y229 13)]])]))
noncomputable def Za (n:Nat) (ff:Nat→Rec) (k168:KT) (p167:ST):RT:=ff 10 (List Tree) (.fn 125 [AV.ptr 6 0]) (rh p167 0 CB) fun rs h1=>cnd (A0 C.P (Ax C.P 125) rs=true) (Db (rh p167 0 CB) h1 fun hs=>k168 (rs,hs)) none
noncomputable def Sg (n:Nat) (ff:Nat→Rec) (k168:KT) (p167:ST):RT:=bd [0,1] (AA C n 122 (ct [0,13,0,0] p167 6 0 [])) fun y169=>join (Qj n ff p167 k168) fun k171=>cnd ((!(gB y169 1))=true) (k171 ([.t (.bool true)],upd (rh p167 0 Pb) [(7,.box (tv (zt kG [])))])) (k171 ([.t (.bool ((gI y169 0) != cI p167 6 15))],upd (rh p167 0 Pb) [(7,.box (tv (zt kG [])))]))
theorem vC28_5 (n:Nat) (ff:Nat→Rec) (k168:KT) (p167:ST):DD C (FJ C (pcx C (AA C n)) n ff EZ 9) (pcx C (AA C n)) n 125 [AV.ptr 6 0] (rh p167 0 CB) (fun rs h1=>cnd (A0 C.P (Ax C.P 125) rs=true) (Db (rh p167 0 CB) h1 fun hs=>k168 (rs,hs)) none)=Sg n ff k168 p167:=by kernel_rfl
theorem Sv (n:Nat) (k168:KT) (p167:ST):Za n (fI C n) k168 p167=Sg n (fI C n) k168 p167:=(FR C n EZ 9 _ 125 _ _ _).trans (vC28_5 n (fI C n) k168 p167)
noncomputable def Dt (n:Nat) (ff:Nat→Rec) (p267:ST) (k268:KT) (y275:List Tree) (p280:ST):RT:=cnd (vB p280 0=true) (AQ (.box [AV.yld 40,.t (tI (cI p267 6 0)),.t (.sl 10 (cL p267 6 1)),.t (tI (cI p267 6 2)),.t (tI (cI p267 6 3))]) (.box [AV.yld 40,.t (tI (cI p280 6 0)),.t (.sl 10 (cL p280 6 1)),.t (tI (cI p280 6 2)),.t (tI (cI p280 6 3))]) (AQ (.box [AV.yld 40,.t (tI (cI p267 6 0))]) (.box [AV.yld 40,.t (tI (cI p280 6 0))]) (AQ (.row false (AB p267 4) 9 (oEs p267 4)) (.row false (AB p280 4) 9 (oEs p280 4)) (AQ (.row false (AB p267 5) 9 (oEs p267 5)) (.row false (AB p280 5) 9 (oEs p280 5)) (AQ (.row false (AB p267 0) 9 (oEs p267 0)) (.row false (AB p280 0) 9 (oEs p280 0)) (bd [0,13,0,0,0] (AA C n 156 (ct [0,13,0,0] p267 6 0 [tI (vI p267 3),tI (aI p267 4 0),tI (aI p267 4 1),tI (aI p267 4 2),tI (aI p267 4 3),tI (aI p267 4 4),.bool (aB p267 4 5),.str (aS p267 4 6),.sl 2 (aL p267 4 7),.sl 1 [[tI (cI p267 6 0)]]])) fun y282=>cnd (((gI y282 4) != 0)=true) (k268 ([],rh p280 0 Bf)) (cnd (AB p280 4=AI p280 6 13∧(9=9∨9=0)∧AL p280 6 13+AH p280 6 13≤length (oEs p280 4)∧AH p280 6 13+1≤1073741824) (k268 ([],upd (rh p280 0 Bf) [(4,.row false (AI p280 6 13+1) 9 (take (AH p280 6 13) (drop (AL p280 6 13) (oEs p280 4))++[[tI (vI p267 3),tI (aI p267 4 0),tI (aI p267 4 1),tI (aI p267 4 2),tI (aI p267 4 3),tI (aI p267 4 4),Tree.bool (aB p267 4 5),.str (aS p267 4 6),.sl 2 (aL p267 4 7)]])),(6,.box (upd (rb p280 6 0 BK) [(0,.t (tI (gI y282 0))),(1,.t (.sl 10 (gL y282 1))),(2,.t (tI (gI y282 2))),(3,.t (tI (gI y282 3))),(11,.t (tI (w64 (cI p280 6 11+1)))),(13,.sref 4 (AI p280 6 13+1) 0 (AH p280 6 13+1))]))])) none))))))) (AQ (.box [AV.yld 40,.t (tI (cI p267 6 0)),.t (.sl 10 (cL p267 6 1)),.t (tI (cI p267 6 2)),.t (tI (cI p267 6 3))]) (.box [AV.yld 40,.t (tI (cI p280 6 0)),.t (.sl 10 (cL p280 6 1)),.t (tI (cI p280 6 2)),.t (tI (cI p280 6 3))]) (AQ (.box [AV.yld 40,.t (tI (cI p267 6 0))]) (.box [AV.yld 40,.t (tI (cI p280 6 0))]) (AQ (.row false (AB p267 4) 9 (oEs p267 4)) (.row false (AB p280 4) 9 (oEs p280 4)) (AQ (.row false (AB p267 5) 9 (oEs p267 5)) (.row false (AB p280 5) 9 (oEs p280 5)) (AQ (.row false (AB p267 0) 9 (oEs p267 0)) (.row false (AB p280 0) 9 (oEs p280 0)) (bd [0,13,0,0,0] (AA C n 156 (ct [0,13,0,0] p267 6 0 [tI (vI p267 3),tI (aI p267 4 0),tI (aI p267 4 1),tI (aI p267 4 2),tI (aI p267 4 3),tI (aI p267 4 4),.bool (aB p267 4 5),.str (aS p267 4 6),.sl 2 (aL p267 4 7),.sl 1 (gL y275 0)])) fun y283=>cnd (((gI y283 4) != 0)=true) (k268 ([],upd (rh p280 0 Bf) [(6,.box (upd (rb p280 6 0 BK) [(12,.t (tI (w64 (cI p280 6 12+1))))]))])) (cnd (AB p280 4=AI p280 6 13∧(9=9∨9=0)∧AL p280 6 13+AH p280 6 13≤length (oEs p280 4)∧AH p280 6 13+1≤1073741824) (k268 ([],upd (rh p280 0 Bf) [(4,.row false (AI p280 6 13+1) 9 (take (AH p280 6 13) (drop (AL p280 6 13) (oEs p280 4))++[[tI (vI p267 3),tI (aI p267 4 0),tI (aI p267 4 1),tI (aI p267 4 2),tI (aI p267 4 3),tI (aI p267 4 4),.bool (aB p267 4 5),.str (aS p267 4 6),.sl 2 (aL p267 4 7)]])),(6,.box (upd (rb p280 6 0 BK) [(0,.t (tI (gI y283 0))),(1,.t (.sl 10 (gL y283 1))),(2,.t (tI (gI y283 2))),(3,.t (tI (gI y283 3))),(11,.t (tI (w64 (cI p280 6 11+1)))),(12,.t (tI (w64 (cI p280 6 12+1)))),(13,.sref 4 (AI p280 6 13+1) 0 (AH p280 6 13+1))]))])) none)))))))
noncomputable def H7 (n:Nat) (ff:Nat→Rec) (p267:ST) (y275:List Tree) (k268:KT) (p276:ST):RT:=cnd (vB p276 0=true) (AQ (.box [AV.yld 40,.t (tI (cI p267 6 0)),.t (.sl 10 (cL p267 6 1)),.t (tI (cI p267 6 2)),.t (tI (cI p267 6 3))]) (.box [AV.yld 40,.t (tI (cI p276 6 0)),.t (.sl 10 (cL p276 6 1)),.t (tI (cI p276 6 2)),.t (tI (cI p276 6 3))]) (AQ (.box [AV.yld 40,.t (tI (cI p267 6 0))]) (.box [AV.yld 40,.t (tI (cI p276 6 0))]) (AQ (.row false (AB p267 4) 9 (oEs p267 4)) (.row false (AB p276 4) 9 (oEs p276 4)) (AQ (.row false (AB p267 5) 9 (oEs p267 5)) (.row false (AB p276 5) 9 (oEs p276 5)) (AQ (.row false (AB p267 0) 9 (oEs p267 0)) (.row false (AB p276 0) 9 (oEs p276 0)) (bd [0,13,0,0,0] (AA C n 156 (ct [0,13,0,0] p267 6 0 [tI (vI p267 3),tI (aI p267 4 0),tI (aI p267 4 1),tI (aI p267 4 2),tI (aI p267 4 3),tI (aI p267 4 4),.bool (aB p267 4 5),.str (aS p267 4 6),.sl 2 (aL p267 4 7),.sl 1 (gL y275 0)])) fun y279=>cnd (((gI y279 4) != 0)=true) (k268 ([],rh p276 0 Bf)) (cnd (AB p276 4=AI p276 6 13∧(9=9∨9=0)∧AL p276 6 13+AH p276 6 13≤length (oEs p276 4)∧AH p276 6 13+1≤1073741824) (k268 ([],upd (rh p276 0 Bf) [(4,.row false (AI p276 6 13+1) 9 (take (AH p276 6 13) (drop (AL p276 6 13) (oEs p276 4))++[[tI (vI p267 3),tI (aI p267 4 0),tI (aI p267 4 1),tI (aI p267 4 2),tI (aI p267 4 3),tI (aI p267 4 4),.bool (aB p267 4 5),.str (aS p267 4 6),.sl 2 (aL p267 4 7)]])),(6,.box (upd (rb p276 6 0 BK) [(0,.t (tI (gI y279 0))),(1,.t (.sl 10 (gL y279 1))),(2,.t (tI (gI y279 2))),(3,.t (tI (gI y279 3))),(11,.t (tI (w64 (cI p276 6 11+1)))),(13,.sref 4 (AI p276 6 13+1) 0 (AH p276 6 13+1))]))])) none))))))) (join (Dt n ff p267 k268 y275) fun k281=>cnd (decide (cI p276 6 9≥(0:Int))=true) (k281 ([.t (.bool (decide (cI p276 6 12≥cI p276 6 9)))],rh p276 0 LZ)) (k281 ([.t (.bool false)],rh p276 0 LZ)))
noncomputable def H6 (n:Nat) (ff:Nat→Rec) (p267:ST) (y288:List Tree) (k268:KT) (p289:ST):RT:=cnd (vB p289 0=true) (AQ (.box [AV.yld 40,.t (tI (cI p267 6 0)),.t (.sl 10 (cL p267 6 1)),.t (tI (cI p267 6 2)),.t (tI (cI p267 6 3))]) (.box [AV.yld 40,.t (tI (cI p289 6 0)),.t (.sl 10 (cL p289 6 1)),.t (tI (cI p289 6 2)),.t (tI (cI p289 6 3))]) (AQ (.box [AV.yld 40,.t (tI (cI p267 6 0))]) (.box [AV.yld 40,.t (tI (cI p289 6 0))]) (AQ (.row false (AB p267 4) 9 (oEs p267 4)) (.row false (AB p289 4) 9 (oEs p289 4)) (AQ (.row false (AB p267 5) 9 (oEs p267 5)) (.row false (AB p289 5) 9 (oEs p289 5)) (AQ (.row false (AB p267 0) 9 (oEs p267 0)) (.row false (AB p289 0) 9 (oEs p289 0)) (bd [0,13,0,0,0] (AA C n 156 (ct [0,13,0,0] p267 6 0 [tI (vI p267 3),tI (aI p267 4 0),tI (aI p267 4 1),tI (aI p267 4 2),tI (aI p267 4 3),tI (aI p267 4 4),.bool (aB p267 4 5),.str (aS p267 4 6),.sl 2 (aL p267 4 7),.sl 1 (gL y288 0)])) fun y292=>cnd (((gI y292 4) != 0)=true) (k268 ([],rh p289 0 Bf)) (cnd (AB p289 4=AI p289 6 13∧(9=9∨9=0)∧AL p289 6 13+AH p289 6 13≤length (oEs p289 4)∧AH p289 6 13+1≤1073741824) (k268 ([],upd (rh p289 0 Bf) [(4,.row false (AI p289 6 13+1) 9 (take (AH p289 6 13) (drop (AL p289 6 13) (oEs p289 4))++[[tI (vI p267 3),tI (aI p267 4 0),tI (aI p267 4 1),tI (aI p267 4 2),tI (aI p267 4 3),tI (aI p267 4 4),.bool (aB p267 4 5),.str (aS p267 4 6),.sl 2 (aL p267 4 7)]])),(6,.box (upd (rb p289 6 0 BK) [(0,.t (tI (gI y292 0))),(1,.t (.sl 10 (gL y292 1))),(2,.t (tI (gI y292 2))),(3,.t (tI (gI y292 3))),(11,.t (tI (w64 (cI p289 6 11+1)))),(13,.sref 4 (AI p289 6 13+1) 0 (AH p289 6 13+1))]))])) none))))))) (join (Dt n ff p267 k268 y288) fun k294=>cnd (decide (cI p289 6 9≥(0:Int))=true) (k294 ([.t (.bool (decide (cI p289 6 12≥cI p289 6 9)))],rh p289 0 Bf)) (k294 ([.t (.bool false)],rh p289 0 Bf)))
noncomputable def ZZ (n:Nat) (ff:Nat→Rec) (k268:KT) (p267:ST):RT:=ff 9 (List Tree) (.fn 144 [AV.ptr 6 0,AV.ptr 6 0,.t (tI 0),.t (tI (vI p267 3)),AV.agg (tv [tI (aI p267 4 0),tI (aI p267 4 1),tI (aI p267 4 2),tI (aI p267 4 3),tI (aI p267 4 4),.bool (aB p267 4 5),.str (aS p267 4 6),.sl 2 (aL p267 4 7)])]) (rh p267 0 CB) fun rs h1=>cnd (A0 C.P (Ax C.P 144) rs=true) (Db (rh p267 0 CB) h1 fun hs=>k268 (rs,hs)) none
noncomputable def H2 (n:Nat) (ff:Nat→Rec) (k268:KT) (p267:ST):RT:=cnd (decide (cI p267 6 11≥(10000:Int))=true) (k268 ([],rh p267 0 Bf)) (both (bd [1] (AA C n 175 [.sl 2 (cL p267 6 10),tI (vI p267 3)]) fun y271=>cnd (gB y271 0=true) (AQ (.box [AV.yld 40,.t (tI (cI p267 6 0)),.t (.sl 10 (cL p267 6 1)),.t (tI (cI p267 6 2)),.t (tI (cI p267 6 3))]) (.box [AV.yld 40,.t (tI (cI p267 6 0)),.t (.sl 10 (cL p267 6 1)),.t (tI (cI p267 6 2)),.t (tI (cI p267 6 3))]) (AQ (.box [AV.yld 40,.t (tI (cI p267 6 0))]) (.box [AV.yld 40,.t (tI (cI p267 6 0))]) (AQ (.row false (AB p267 4) 9 (oEs p267 4)) (.row false (AB p267 4) 9 (oEs p267 4)) (AQ (.row false (AB p267 5) 9 (oEs p267 5)) (.row false (AB p267 5) 9 (oEs p267 5)) (AQ (.row false (AB p267 0) 9 (oEs p267 0)) (.row false (AB p267 0) 9 (oEs p267 0)) (bd [0,13,0,0,0] (AA C n 156 (ct [0,13,0,0] p267 6 0 [tI (vI p267 3),tI (aI p267 4 0),tI (aI p267 4 1),tI (aI p267 4 2),tI (aI p267 4 3),tI (aI p267 4 4),.bool (aB p267 4 5),.str (aS p267 4 6),.sl 2 (aL p267 4 7),.sl 1 []])) fun y272=>cnd (((gI y272 4) != 0)=true) (k268 ([],rh p267 0 Bf)) (cnd (AB p267 4=AI p267 6 13∧(9=9∨9=0)∧AL p267 6 13+AH p267 6 13≤length (oEs p267 4)∧AH p267 6 13+1≤1073741824) (k268 ([],upd (rh p267 0 Bf) [(4,.row false (AI p267 6 13+1) 9 (take (AH p267 6 13) (drop (AL p267 6 13) (oEs p267 4))++[[tI (vI p267 3),tI (aI p267 4 0),tI (aI p267 4 1),tI (aI p267 4 2),tI (aI p267 4 3),tI (aI p267 4 4),.bool (aB p267 4 5),.str (aS p267 4 6),.sl 2 (aL p267 4 7)]])),(6,.box (upd (rb p267 6 0 BK) [(0,.t (tI (gI y272 0))),(1,.t (.sl 10 (gL y272 1))),(2,.t (tI (gI y272 2))),(3,.t (tI (gI y272 3))),(11,.t (tI (w64 (cI p267 6 11+1)))),(13,.sref 4 (AI p267 6 13+1) 0 (AH p267 6 13+1))]))])) none))))))) (cnd (((length (cL p267 6 8):Int)==0)=true) (AQ (.box [AV.yld 40,.t (tI (cI p267 6 0)),.t (.sl 10 (cL p267 6 1)),.t (tI (cI p267 6 2)),.t (tI (cI p267 6 3))]) (.box [AV.yld 40,.t (tI (cI p267 6 0)),.t (.sl 10 (cL p267 6 1)),.t (tI (cI p267 6 2)),.t (tI (cI p267 6 3))]) (AQ (.box [AV.yld 40,.t (tI (cI p267 6 0))]) (.box [AV.yld 40,.t (tI (cI p267 6 0))]) (AQ (.row false (AB p267 4) 9 (oEs p267 4)) (.row false (AB p267 4) 9 (oEs p267 4)) (AQ (.row false (AB p267 5) 9 (oEs p267 5)) (.row false (AB p267 5) 9 (oEs p267 5)) (AQ (.row false (AB p267 0) 9 (oEs p267 0)) (.row false (AB p267 0) 9 (oEs p267 0)) (bd [0,13,0,0,0] (AA C n 156 (ct [0,13,0,0] p267 6 0 [tI (vI p267 3),tI (aI p267 4 0),tI (aI p267 4 1),tI (aI p267 4 2),tI (aI p267 4 3),tI (aI p267 4 4),.bool (aB p267 4 5),.str (aS p267 4 6),.sl 2 (aL p267 4 7),.sl 1 [[tI (cI p267 6 0)]]])) fun y273=>cnd (((gI y273 4) != 0)=true) (k268 ([],rh p267 0 Bf)) (cnd (AB p267 4=AI p267 6 13∧(9=9∨9=0)∧AL p267 6 13+AH p267 6 13≤length (oEs p267 4)∧AH p267 6 13+1≤1073741824) (k268 ([],upd (rh p267 0 Bf) [(4,.row false (AI p267 6 13+1) 9 (take (AH p267 6 13) (drop (AL p267 6 13) (oEs p267 4))++[[tI (vI p267 3),tI (aI p267 4 0),tI (aI p267 4 1),tI (aI p267 4 2),tI (aI p267 4 3),tI (aI p267 4 4),.bool (aB p267 4 5),.str (aS p267 4 6),.sl 2 (aL p267 4 7)]])),(6,.box (upd (rb p267 6 0 BK) [(0,.t (tI (gI y273 0))),(1,.t (.sl 10 (gL y273 1))),(2,.t (tI (gI y273 2))),(3,.t (tI (gI y273 3))),(11,.t (tI (w64 (cI p267 6 11+1)))),(13,.sref 4 (AI p267 6 13+1) 0 (AH p267 6 13+1))]))])) none))))))) (cnd ((length (cL p267 6 8):Int)=0) none (cnd (1=1∧0≤tmod (cI p267 6 11) (length (cL p267 6 8):Int)) (Option.bind (cL p267 6 8)[toNat (tmod (cI p267 6 11) (length (cL p267 6 8):Int))]? fun y274=>cnd (okI y274 0) (bd [4,0] (AA C n 176 [tI (gI y274 0),tI (cI p267 6 0)]) fun y275=>join (H7 n ff p267 y275 k268) fun k277=>cnd (decide ((length (gL y275 0):Int)>0)=true) (Option.bind (gL y275 0)[0]? fun y278=>cnd (okI y278 0) (k277 ([.t (.bool (gI y278 0==cI p267 6 0))],upd (rh p267 0 LZ) [(7,.box (tv (zt [0,13,0,0] [])))])) none) (k277 ([.t (.bool false)],upd (rh p267 0 LZ) [(7,.box (tv (zt [0,13,0,0] [])))]))) none) none)))) (bd [1] (AA C n 175 [.sl 2 (cL p267 6 10),tI (vI p267 3)]) fun y284=>cnd (gB y284 0=true) (AQ (.box [AV.yld 40,.t (tI (cI p267 6 0)),.t (.sl 10 (cL p267 6 1)),.t (tI (cI p267 6 2)),.t (tI (cI p267 6 3))]) (.box [AV.yld 40,.t (tI (cI p267 6 0)),.t (.sl 10 (cL p267 6 1)),.t (tI (cI p267 6 2)),.t (tI (cI p267 6 3))]) (AQ (.box [AV.yld 40,.t (tI (cI p267 6 0))]) (.box [AV.yld 40,.t (tI (cI p267 6 0))]) (AQ (.row false (AB p267 4) 9 (oEs p267 4)) (.row false (AB p267 4) 9 (oEs p267 4)) (AQ (.row false (AB p267 5) 9 (oEs p267 5)) (.row false (AB p267 5) 9 (oEs p267 5)) (AQ (.row false (AB p267 0) 9 (oEs p267 0)) (.row false (AB p267 0) 9 (oEs p267 0)) (bd [0,13,0,0,0] (AA C n 156 (ct [0,13,0,0] p267 6 0 [tI (vI p267 3),tI (aI p267 4 0),tI (aI p267 4 1),tI (aI p267 4 2),tI (aI p267 4 3),tI (aI p267 4 4),.bool (aB p267 4 5),.str (aS p267 4 6),.sl 2 (aL p267 4 7),.sl 1 []])) fun y285=>cnd (((gI y285 4) != 0)=true) (k268 ([],rh p267 0 Bf)) (cnd (AB p267 4=AI p267 6 13∧(9=9∨9=0)∧AL p267 6 13+AH p267 6 13≤length (oEs p267 4)∧AH p267 6 13+1≤1073741824) (k268 ([],upd (rh p267 0 Bf) [(4,.row false (AI p267 6 13+1) 9 (take (AH p267 6 13) (drop (AL p267 6 13) (oEs p267 4))++[[tI (vI p267 3),tI (aI p267 4 0),tI (aI p267 4 1),tI (aI p267 4 2),tI (aI p267 4 3),tI (aI p267 4 4),.bool (aB p267 4 5),.str (aS p267 4 6),.sl 2 (aL p267 4 7)]])),(6,.box (upd (rb p267 6 0 BK) [(0,.t (tI (gI y285 0))),(1,.t (.sl 10 (gL y285 1))),(2,.t (tI (gI y285 2))),(3,.t (tI (gI y285 3))),(11,.t (tI (w64 (cI p267 6 11+1)))),(13,.sref 4 (AI p267 6 13+1) 0 (AH p267 6 13+1))]))])) none))))))) (cnd (((length (cL p267 6 8):Int)==0)=true) (AQ (.box [AV.yld 40,.t (tI (cI p267 6 0)),.t (.sl 10 (cL p267 6 1)),.t (tI (cI p267 6 2)),.t (tI (cI p267 6 3))]) (.box [AV.yld 40,.t (tI (cI p267 6 0)),.t (.sl 10 (cL p267 6 1)),.t (tI (cI p267 6 2)),.t (tI (cI p267 6 3))]) (AQ (.box [AV.yld 40,.t (tI (cI p267 6 0))]) (.box [AV.yld 40,.t (tI (cI p267 6 0))]) (AQ (.row false (AB p267 4) 9 (oEs p267 4)) (.row false (AB p267 4) 9 (oEs p267 4)) (AQ (.row false (AB p267 5) 9 (oEs p267 5)) (.row false (AB p267 5) 9 (oEs p267 5)) (AQ (.row false (AB p267 0) 9 (oEs p267 0)) (.row false (AB p267 0) 9 (oEs p267 0)) (bd [0,13,0,0,0] (AA C n 156 (ct [0,13,0,0] p267 6 0 [tI (vI p267 3),tI (aI p267 4 0),tI (aI p267 4 1),tI (aI p267 4 2),tI (aI p267 4 3),tI (aI p267 4 4),.bool (aB p267 4 5),.str (aS p267 4 6),.sl 2 (aL p267 4 7),.sl 1 [[tI (cI p267 6 0)]]])) fun y286=>cnd (((gI y286 4) != 0)=true) (k268 ([],rh p267 0 Bf)) (cnd (AB p267 4=AI p267 6 13∧(9=9∨9=0)∧AL p267 6 13+AH p267 6 13≤length (oEs p267 4)∧AH p267 6 13+1≤1073741824) (k268 ([],upd (rh p267 0 Bf) [(4,.row false (AI p267 6 13+1) 9 (take (AH p267 6 13) (drop (AL p267 6 13) (oEs p267 4))++[[tI (vI p267 3),tI (aI p267 4 0),tI (aI p267 4 1),tI (aI p267 4 2),tI (aI p267 4 3),tI (aI p267 4 4),.bool (aB p267 4 5),.str (aS p267 4 6),.sl 2 (aL p267 4 7)]])),(6,.box (upd (rb p267 6 0 BK) [(0,.t (tI (gI y286 0))),(1,.t (.sl 10 (gL y286 1))),(2,.t (tI (gI y286 2))),(3,.t (tI (gI y286 3))),(11,.t (tI (w64 (cI p267 6 11+1)))),(13,.sref 4 (AI p267 6 13+1) 0 (AH p267 6 13+1))]))])) none))))))) (cnd ((length (cL p267 6 8):Int)=0) none (cnd (1=1∧0≤tmod (cI p267 6 11) (length (cL p267 6 8):Int)) (Option.bind (cL p267 6 8)[toNat (tmod (cI p267 6 11) (length (cL p267 6 8):Int))]? fun y287=>cnd (okI y287 0) (bd [4,0] (AA C n 176 [tI (gI y287 0),tI (cI p267 6 0)]) fun y288=>join (H6 n ff p267 y288 k268) fun k290=>cnd (decide ((length (gL y288 0):Int)>0)=true) (Option.bind (gL y288 0)[0]? fun y291=>cnd (okI y291 0) (k290 ([.t (.bool (gI y291 0==cI p267 6 0))],rh p267 0 Bf)) none) (k290 ([.t (.bool false)],rh p267 0 Bf))) none) none)))))
theorem vC28_6 (n:Nat) (ff:Nat→Rec) (k268:KT) (p267:ST):DD C (FJ C (pcx C (AA C n)) n ff EZ 8) (pcx C (AA C n)) n 144 [AV.ptr 6 0,AV.ptr 6 0,.t (tI 0),.t (tI (vI p267 3)),AV.agg (tv [tI (aI p267 4 0),tI (aI p267 4 1),tI (aI p267 4 2),tI (aI p267 4 3),tI (aI p267 4 4),.bool (aB p267 4 5),.str (aS p267 4 6),.sl 2 (aL p267 4 7)])] (rh p267 0 CB) (fun rs h1=>cnd (A0 C.P (Ax C.P 144) rs=true) (Db (rh p267 0 CB) h1 fun hs=>k268 (rs,hs)) none)=H2 n ff k268 p267:=by kernel_rfl
theorem GV (n:Nat) (k268:KT) (p267:ST):ZZ n (fI C n) k268 p267=H2 n (fI C n) k268 p267:=(FR C n EZ 8 _ 144 _ _ _).trans (vC28_6 n (fI C n) k268 p267)
noncomputable def ZK (n:Nat) (ff:Nat→Rec) (k262:KT) (p297:ST):RT:=cnd (AB p297 0=AI p297 6 35∧(9=9∨9=0)) (cnd ((0:Int)≤1∧1≤(AH p297 6 35:Int)) (k262 ([],upd (rh p297 0 Bf) [(6,.box (upd (rb p297 6 0 BK) [(35,.sref 0 (AI p297 6 35) (AL p297 6 35+1) (AH p297 6 35-1))]))])) none) none
noncomputable def Qi (n:Nat) (ff:Nat→Rec) (k262:KT) (p259:ST) (k260:KT) (p263:ST):RT:=cnd (vB p263 0=true) (cnd (AB p263 0=AI p263 6 35∧9=9∧(0:Int)≤0∧0<(AH p263 6 35:Int)) (cnd (AB p263 0=AI p263 6 35) (cnd (AB p263 0=AI p263 6 35) (Option.bind (oEs p263 0)[AL p263 6 35]? fun y266=>bk kG 1 y266 (join (ZK n ff k262) fun k298=>ZZ n ff k298 ([AV.ptr 6 0,AV.ptr 6 0,.t (tI 0),.t (tI (cI p263 6 15)),AV.agg (tv (gt kG y266 1 []))],upd (rh p263 0 CB) [(1,.row true (AB p259 1) 15 (oEs p259 1)),(2,.row true (AB p259 2) 4 (oEs p259 2)),(3,.row true (AB p259 3) 4 (oEs p259 3))]))) none) none) none) (k260 ([],rh p263 0 Bf))
noncomputable def N1 (n:Nat) (ff:Nat→Rec) (p259:ST) (k260:KT) (p261:ST) (k262:KT):RT:=join (Qi n ff k262 p259 k260) fun k264=>cnd (AB p261 0=AI p261 6 35) (cnd (decide ((AH p261 6 35:Int)>0)=true) (cnd (AB p261 0=AI p261 6 35∧9=9∧(0:Int)≤0∧0<(AH p261 6 35:Int)) (cnd (AB p261 0=AI p261 6 35) (cnd (AB p261 0=AI p261 6 35) (Option.bind (oEs p261 0)[AL p261 6 35]? fun y265=>cnd (okI y265 0) (k264 ([.t (.bool (gI y265 0==cI p261 6 15))],rh p261 0 Bf)) none) none) none) none) (k264 ([.t (.bool false)],rh p261 0 Bf))) none
noncomputable def ZY (n:Nat) (ff:Nat→Rec) (k260:KT) (p259:ST):RT:=ff 10 (List Tree) (.fn 124 [AV.ptr 6 0]) (rh p259 0 CB) fun rs h1=>cnd (A0 C.P (Ax C.P 124) rs=true) (Db (rh p259 0 CB) h1 fun hs=>k260 (rs,hs)) none
noncomputable def Y4 (n:Nat) (ff:Nat→Rec) (k260:KT) (p259:ST):RT:=AJ (N1 n ff p259 k260) n ([],rh p259 0 Bf)
theorem vC28_7 (n:Nat) (ff:Nat→Rec) (k260:KT) (p259:ST):DD C (FJ C (pcx C (AA C n)) n ff EZ 9) (pcx C (AA C n)) n 124 [AV.ptr 6 0] (rh p259 0 CB) (fun rs h1=>cnd (A0 C.P (Ax C.P 124) rs=true) (Db (rh p259 0 CB) h1 fun hs=>k260 (rs,hs)) none)=Y4 n ff k260 p259:=by kernel_rfl
theorem tC28_7 (n:Nat) (k260:KT) (p259:ST):ZY n (fI C n) k260 p259=Y4 n (fI C n) k260 p259:=(FR C n EZ 9 _ 124 _ _ _).trans (vC28_7 n (fI C n) k260 p259)
noncomputable def ZJ (n:Nat) (ff:Nat→Rec) (k85:KT) (p301:ST):RT:=k85 (tv [tI (vI p301 0),.bool (vB p301 1)],rh p301 0 Bf)
noncomputable def JO (n:Nat) (ff:Nat→Rec) (p17:ST) (k85:KT) (p86:ST) (k87:KT):RT:=cnd (decide (vI p86 0<4)=true) (cnd (0≤vI p86 0∧vI p86 0<4) (cnd (vI p86 0=(3:Int)) (join (IA n ff k87 p86) fun k100=>Zd n ff k100 ([AV.ptr 6 0],upd (rh p86 0 CB) [(1,.row true (AB p17 1) 15 (oEs p17 1)),(2,.row true (AB p17 2) 4 (oEs p17 2)),(3,.row true (AB p17 3) 4 (oEs p17 3))])) (cnd (vI p86 0=(2:Int)) (join (IA n ff k87 p86) fun k166=>Zc n ff k166 ([AV.ptr 6 0],upd (rh p86 0 CB) [(1,.row true (AB p17 1) 15 (oEs p17 1)),(2,.row true (AB p17 2) 4 (oEs p17 2)),(3,.row true (AB p17 3) 4 (oEs p17 3))])) (cnd (vI p86 0=(1:Int)) (join (IA n ff k87 p86) fun k258=>Za n ff k258 ([AV.ptr 6 0],upd (rh p86 0 CB) [(1,.row true (AB p17 1) 15 (oEs p17 1)),(2,.row true (AB p17 2) 4 (oEs p17 2)),(3,.row true (AB p17 3) 4 (oEs p17 3))])) (cnd (vI p86 0=(0:Int)) (join (IA n ff k87 p86) fun k300=>ZY n ff k300 ([AV.ptr 6 0],upd (rh p86 0 CB) [(1,.row true (AB p17 1) 15 (oEs p17 1)),(2,.row true (AB p17 2) 4 (oEs p17 2)),(3,.row true (AB p17 3) 4 (oEs p17 3))])) none)))) none) (join (ZJ n ff k85) fun k302=>Vv n ff k302 ([AV.ptr 6 0],upd (rh p86 0 CB) [(1,.row true (AB p17 1) 15 (oEs p17 1)),(2,.row true (AB p17 2) 4 (oEs p17 2)),(3,.row true (AB p17 3) 4 (oEs p17 3))]))
noncomputable def N0 (n:Nat) (ff:Nat→Rec) (p17:ST) (k18:KT) (p84:ST) (k85:KT):RT:=cnd (vB p84 1=true) (AJ (JO n ff p17 k85) n ([.t (tI 0)],upd (rh p84 0 Bf) [(6,.box (upd (rb p84 6 0 BK) [(15,.t (tI (vI p84 0)))]))])) (k18 ([],rh p84 0 Bf))
noncomputable def ZI (n:Nat) (ff:Nat→Rec) (p17:ST) (k18:KT) (p82:ST):RT:=AJ (N0 n ff p17 k18) n (tv [tI (vI p82 0),.bool (vB p82 1)],rh p82 0 Bf)
noncomputable def Vu (n:Nat) (ff:Nat→Rec) (k18:KT) (p17:ST):RT:=ff 11 (List Tree) (.fn 71 [AV.ptr 6 0]) (rh p17 0 CB) fun rs h1=>cnd (A0 C.P (Ax C.P 71) rs=true) (Db (rh p17 0 CB) h1 fun hs=>k18 (rs,hs)) none
noncomputable def Y3 (n:Nat) (ff:Nat→Rec) (k18:KT) (p17:ST):RT:=join (ZI n ff p17 k18) fun k83=>Vv n ff k83 ([AV.ptr 6 0],rh p17 0 CB)
theorem vC28_8 (n:Nat) (ff:Nat→Rec) (k18:KT) (p17:ST):DD C (FJ C (pcx C (AA C n)) n ff EZ 10) (pcx C (AA C n)) n 71 [AV.ptr 6 0] (rh p17 0 CB) (fun rs h1=>cnd (A0 C.P (Ax C.P 71) rs=true) (Db (rh p17 0 CB) h1 fun hs=>k18 (rs,hs)) none)=Y3 n ff k18 p17:=by kernel_rfl
theorem tC28_8 (n:Nat) (k18:KT) (p17:ST):Vu n (fI C n) k18 p17=Y3 n (fI C n) k18 p17:=(FR C n EZ 10 _ 71 _ _ _).trans (vC28_8 n (fI C n) k18 p17)
noncomputable def T7 (n:Nat) (ff:Nat→Rec) (p303:ST):RT:=cnd ((false=true∨false=false)∧AB p303 4=AI p303 6 13∧(9=9∨9=0)) (cnd ((false=true∨false=false)∧AB p303 5=AI p303 6 14∧(9=9∨9=0)) (some [.sl 9 (take (AH p303 6 13) (drop (AL p303 6 13) (oEs p303 4))),.sl 9 (take (AH p303 6 14) (drop (AL p303 6 14) (oEs p303 5))),tI 0]) none) none
theorem v28 (n:Nat) (ff:Nat→Rec) (a0 a1 a2 a3 a4 a5 a6 a7 a8:Int) (a9:ByteArray) (a10:TT) (a11:Int) (a12:TT):Jq C (FJ C (pcx C (AA C n)) n ff EZ C.depth) (pcx C (AA C n)) n 28 [tI a0,tI a1,tI a2,tI a3,tI a4,tI a5,tI a6,tI a7,tI a8,.str a9,.sl 1 a10,tI a11,.sl 2 a12]=cnd (decide ((length a10:Int)>1000)=true) (some [.sl 9 [],.sl 9 [],tI 4]) (cnd (decide (a11<(-1))=true) (some [.sl 9 [],.sl 9 [],tI 2]) (bd [0] (AA C n 67 [.sl 2 a12]) fun y13=>cnd (((gI y13 0) != 0)=true) (some [.sl 9 [],.sl 9 [],tI 1]) (bd [0,0,0,0,0,0,0,0,2,0,0,0,5,0,0,12,0] (AA C n 2004367 [tI a0,tI a1,tI a2,tI a3,tI a4,tI a5,tI a6,tI 0,.str a9,tI a7,tI a8]) fun y14=>cnd (((gI y14 16) != 0)=true) (cnd (((gI y14 16) != 0)=true) (some [.sl 9 [],.sl 9 [],tI (gI y14 16)]) none) (bd [0,13,0,0,0] (AA C n 69 [tI a5]) fun y15=>bd [0,0,5,2,0] (AA C n 70 [tI 0]) fun y16=>join (T7 n ff) fun k304=>Vu n ff k304 ([AV.ptr 6 0],[.row false 0 9 (gL y14 15),.row true 0 15 [[tI (gI y14 0),tI (gI y14 1),tI (gI y14 2),tI (gI y14 3),tI (gI y14 4),tI (gI y14 5),tI (gI y14 6),tI (gI y14 7),.str (gS y14 8),tI (gI y14 9),tI (gI y14 10),tI (gI y14 11),.sl 2 (gL y14 12),tI (gI y14 13),tI (gI y14 14)]],.row true 0 4 [[tI (gI y15 0),.sl 10 (gL y15 1),tI (gI y15 2),tI (gI y15 3)]],.row true 0 4 [[tI (gI y16 0),tI (gI y16 1),.sl 2 (gL y16 2),.str (gS y16 3)]],.row false 0 9 [],.row false 0 9 [],.box [.t (tI (gI y15 0)),.t (.sl 10 (gL y15 1)),.t (tI (gI y15 2)),.t (tI (gI y15 3)),.t (tI (gI y15 0)),.t (.sl 10 (gL y15 1)),.t (tI (gI y15 2)),.t (tI (gI y15 3)),.t (.sl 1 a10),.t (tI a11),.t (.sl 2 a12),.t (tI 0),.t (tI 0),.sref 4 0 0 0,.sref 5 0 0 0,.t (tI 0),.t (tI (gI y14 0)),.t (tI (gI y14 1)),.t (tI (gI y14 2)),.t (tI (gI y14 3)),.t (tI (gI y14 4)),.t (tI (gI y14 5)),.t (tI (gI y14 6)),.t (tI (gI y14 7)),.t (.str (gS y14 8)),.t (tI (gI y14 9)),.t (tI (gI y14 10)),.t (tI (gI y14 11)),.t (.sl 2 (gL y14 12)),.t (tI (gI y14 13)),.t (tI (gI y14 14)),.t (tI (gI y16 0)),.t (tI (gI y16 1)),.t (.sl 2 (gL y16 2)),.t (.str (gS y16 3)),.sref 0 0 0 (length (gL y14 15)),.t (.bool false),.t (tI 0),.t (.bool false),.t (tI 0)]]))))):=by kernel_rfl
theorem u28 (a0:Int) (a1:Int) (a2:Int) (a3:Int) (a4:Int) (a5:Int) (a6:Int) (a7:Int) (a8:Int) (a9:ByteArray) (a10:List (List Tree)) (a11:Int) (a12:List (List Tree)):C.ext 28 [tI a0,tI a1,tI a2,tI a3,tI a4,tI a5,tI a6,tI a7,tI a8,.str a9,.sl 1 a10,tI a11,.sl 2 a12]=none:=by kernel_rfl
theorem e28 (n:Nat) (a0 a1 a2 a3 a4 a5 a6 a7 a8:Int) (a9:ByteArray) (a10:TT) (a11:Int) (a12:TT):AA C (n+1) 28 [tI a0,tI a1,tI a2,tI a3,tI a4,tI a5,tI a6,tI a7,tI a8,.str a9,.sl 1 a10,tI a11,.sl 2 a12]=cnd (decide ((length a10:Int)>1000)=true) (some [.sl 9 [],.sl 9 [],tI 4]) (cnd (decide (a11<(-1))=true) (some [.sl 9 [],.sl 9 [],tI 2]) (bd [0] (AA C n 67 [.sl 2 a12]) fun y13=>cnd (((gI y13 0) != 0)=true) (some [.sl 9 [],.sl 9 [],tI 1]) (bd [0,0,0,0,0,0,0,0,2,0,0,0,5,0,0,12,0] (AA C n 2004367 [tI a0,tI a1,tI a2,tI a3,tI a4,tI a5,tI a6,tI 0,.str a9,tI a7,tI a8]) fun y14=>cnd (((gI y14 16) != 0)=true) (cnd (((gI y14 16) != 0)=true) (some [.sl 9 [],.sl 9 [],tI (gI y14 16)]) none) (bd [0,13,0,0,0] (AA C n 69 [tI a5]) fun y15=>bd [0,0,5,2,0] (AA C n 70 [tI 0]) fun y16=>join (fun (p303:ST)=>T7 n (fI C n) p303) fun k304=>Vu n (fI C n) k304 ([AV.ptr 6 0],[.row false 0 9 (gL y14 15),.row true 0 15 [[tI (gI y14 0),tI (gI y14 1),tI (gI y14 2),tI (gI y14 3),tI (gI y14 4),tI (gI y14 5),tI (gI y14 6),tI (gI y14 7),.str (gS y14 8),tI (gI y14 9),tI (gI y14 10),tI (gI y14 11),.sl 2 (gL y14 12),tI (gI y14 13),tI (gI y14 14)]],.row true 0 4 [[tI (gI y15 0),.sl 10 (gL y15 1),tI (gI y15 2),tI (gI y15 3)]],.row true 0 4 [[tI (gI y16 0),tI (gI y16 1),.sl 2 (gL y16 2),.str (gS y16 3)]],.row false 0 9 [],.row false 0 9 [],.box [.t (tI (gI y15 0)),.t (.sl 10 (gL y15 1)),.t (tI (gI y15 2)),.t (tI (gI y15 3)),.t (tI (gI y15 0)),.t (.sl 10 (gL y15 1)),.t (tI (gI y15 2)),.t (tI (gI y15 3)),.t (.sl 1 a10),.t (tI a11),.t (.sl 2 a12),.t (tI 0),.t (tI 0),.sref 4 0 0 0,.sref 5 0 0 0,.t (tI 0),.t (tI (gI y14 0)),.t (tI (gI y14 1)),.t (tI (gI y14 2)),.t (tI (gI y14 3)),.t (tI (gI y14 4)),.t (tI (gI y14 5)),.t (tI (gI y14 6)),.t (tI (gI y14 7)),.t (.str (gS y14 8)),.t (tI (gI y14 9)),.t (tI (gI y14 10)),.t (tI (gI y14 11)),.t (.sl 2 (gL y14 12)),.t (tI (gI y14 13)),.t (tI (gI y14 14)),.t (tI (gI y16 0)),.t (tI (gI y16 1)),.t (.sl 2 (gL y16 2)),.t (.str (gS y16 3)),.sref 0 0 0 (length (gL y14 15)),.t (.bool false),.t (tI 0),.t (.bool false),.t (tI 0)]]))))):=(Nl C n 28 _ (by decide) (u28 a0 a1 a2 a3 a4 a5 a6 a7 a8 a9 a10 a11 a12)).trans ((pureO C n EZ 28 _).symm.trans (v28 n (fI C n) a0 a1 a2 a3 a4 a5 a6 a7 a8 a9 a10 a11 a12))
end Ab
set_option linter.unusedVariables false
set_option linter.unusedSimpArgs false
set_option maxRecDepth 100000
namespace Ab
open Go
def Ae (g:Gh) (s:Ses):List AV:=[.t (tI s.dat.rng),.t (.sl 10 (s.dat.frames.map Frame.enc)),.t (tI s.dat.sent),.t (tI s.dat.lost),.t (tI s.rep.rng),.t (.sl 10 (s.rep.frames.map Frame.enc)),.t (tI s.rep.sent),.t (tI s.rep.lost),.t (.sl 1 (s.picks.map Bh)),.t (tI s.limit),.t (.sl 2 (s.dark.map Span.enc)),.t (tI s.entered),.t (tI s.dist),.sref 4 g.v4 0 s.sent.length,.sref 5 g.v5 0 s.told.length,.t (tI s.now),.t (tI s.snd.c.frm),.t (tI s.snd.c.dst),.t (tI s.snd.c.start),.t (tI s.snd.c.fin),.t (tI s.snd.c.rate),.t (tI s.snd.c.rng),.t (tI s.snd.c.loss),.t (tI s.snd.ses),.t (.str s.snd.data),.t (tI s.snd.fin),.t (tI s.snd.busy),.t (tI s.snd.ser),.t (.sl 2 (s.snd.acked.map Span.enc)),.t (tI s.snd.due),.t (tI s.snd.st),.t (tI s.rcv.ses),.t (tI s.rcv.tot),.t (.sl 2 (s.rcv.known.map Span.enc)),.t (.str s.rcv.data),.sref 0 g.v0 g.pre.length s.pend.length,.t (.bool s.rcvd),.t (tI s.arrive),.t (.bool s.kno),.t (tI s.knoAt)]
def AW (f1 f2 f3:AF) (v0:Nat) (e0:List (List Tree)) (v4:Nat) (e4:List (List Tree)) (v5:Nat) (e5:List (List Tree)) (c:List AV) (tl:Heap):Heap:=
 .row false v0 9 e0::f1::f2::f3 :: .row false v4 9 e4 :: .row false v5 9 e5 :: .box c::tl
def H28 (f1 f2 f3:AF) (g:Gh) (s:Ses) (tl:Heap):Heap:=AW f1 f2 f3 g.v0 (g.pre++s.pend.map Out.enc) g.v4 (s.sent.map Out.enc) g.v5 (s.told.map Out.enc) (Ae g s) tl
theorem rd28 :
 (∀(e:List AV) (f1 f2 f3:AF) (v0:Nat) (e0:List (List Tree)) (v4:Nat) (e4:List (List Tree)) (v5:Nat) (e5:List (List Tree)) (g:Gh) (s:Ses) (tl:Heap),
  cI (e,AW f1 f2 f3 v0 e0 v4 e4 v5 e5 (Ae g s) tl) 6 0=s.dat.rng∧
  cL (e,AW f1 f2 f3 v0 e0 v4 e4 v5 e5 (Ae g s) tl) 6 1=s.dat.frames.map Frame.enc∧
  cI (e,AW f1 f2 f3 v0 e0 v4 e4 v5 e5 (Ae g s) tl) 6 2=s.dat.sent∧
  cI (e,AW f1 f2 f3 v0 e0 v4 e4 v5 e5 (Ae g s) tl) 6 3=s.dat.lost∧
  cI (e,AW f1 f2 f3 v0 e0 v4 e4 v5 e5 (Ae g s) tl) 6 4=s.rep.rng∧
  cL (e,AW f1 f2 f3 v0 e0 v4 e4 v5 e5 (Ae g s) tl) 6 5=s.rep.frames.map Frame.enc∧
  cI (e,AW f1 f2 f3 v0 e0 v4 e4 v5 e5 (Ae g s) tl) 6 6=s.rep.sent∧
  cI (e,AW f1 f2 f3 v0 e0 v4 e4 v5 e5 (Ae g s) tl) 6 7=s.rep.lost∧
  cL (e,AW f1 f2 f3 v0 e0 v4 e4 v5 e5 (Ae g s) tl) 6 8=s.picks.map Bh∧
  cI (e,AW f1 f2 f3 v0 e0 v4 e4 v5 e5 (Ae g s) tl) 6 9=s.limit∧
  cL (e,AW f1 f2 f3 v0 e0 v4 e4 v5 e5 (Ae g s) tl) 6 10=s.dark.map Span.enc∧
  cI (e,AW f1 f2 f3 v0 e0 v4 e4 v5 e5 (Ae g s) tl) 6 11=s.entered∧
  cI (e,AW f1 f2 f3 v0 e0 v4 e4 v5 e5 (Ae g s) tl) 6 12=s.dist∧
  AI (e,AW f1 f2 f3 v0 e0 v4 e4 v5 e5 (Ae g s) tl) 6 13=g.v4∧
  AL (e,AW f1 f2 f3 v0 e0 v4 e4 v5 e5 (Ae g s) tl) 6 13=0∧
  AH (e,AW f1 f2 f3 v0 e0 v4 e4 v5 e5 (Ae g s) tl) 6 13=s.sent.length∧
  AI (e,AW f1 f2 f3 v0 e0 v4 e4 v5 e5 (Ae g s) tl) 6 14=g.v5∧
  AL (e,AW f1 f2 f3 v0 e0 v4 e4 v5 e5 (Ae g s) tl) 6 14=0∧
  AH (e,AW f1 f2 f3 v0 e0 v4 e4 v5 e5 (Ae g s) tl) 6 14=s.told.length∧
  cI (e,AW f1 f2 f3 v0 e0 v4 e4 v5 e5 (Ae g s) tl) 6 15=s.now∧
  cI (e,AW f1 f2 f3 v0 e0 v4 e4 v5 e5 (Ae g s) tl) 6 16=s.snd.c.frm∧
  cI (e,AW f1 f2 f3 v0 e0 v4 e4 v5 e5 (Ae g s) tl) 6 17=s.snd.c.dst∧
  cI (e,AW f1 f2 f3 v0 e0 v4 e4 v5 e5 (Ae g s) tl) 6 18=s.snd.c.start∧
  cI (e,AW f1 f2 f3 v0 e0 v4 e4 v5 e5 (Ae g s) tl) 6 19=s.snd.c.fin∧
  cI (e,AW f1 f2 f3 v0 e0 v4 e4 v5 e5 (Ae g s) tl) 6 20=s.snd.c.rate∧
  cI (e,AW f1 f2 f3 v0 e0 v4 e4 v5 e5 (Ae g s) tl) 6 21=s.snd.c.rng∧
  cI (e,AW f1 f2 f3 v0 e0 v4 e4 v5 e5 (Ae g s) tl) 6 22=s.snd.c.loss∧
  cI (e,AW f1 f2 f3 v0 e0 v4 e4 v5 e5 (Ae g s) tl) 6 23=s.snd.ses∧
  cS (e,AW f1 f2 f3 v0 e0 v4 e4 v5 e5 (Ae g s) tl) 6 24=s.snd.data∧
  cI (e,AW f1 f2 f3 v0 e0 v4 e4 v5 e5 (Ae g s) tl) 6 25=s.snd.fin∧
  cI (e,AW f1 f2 f3 v0 e0 v4 e4 v5 e5 (Ae g s) tl) 6 26=s.snd.busy∧
  cI (e,AW f1 f2 f3 v0 e0 v4 e4 v5 e5 (Ae g s) tl) 6 27=s.snd.ser∧
  cL (e,AW f1 f2 f3 v0 e0 v4 e4 v5 e5 (Ae g s) tl) 6 28=s.snd.acked.map Span.enc∧
  cI (e,AW f1 f2 f3 v0 e0 v4 e4 v5 e5 (Ae g s) tl) 6 29=s.snd.due∧
  cI (e,AW f1 f2 f3 v0 e0 v4 e4 v5 e5 (Ae g s) tl) 6 30=s.snd.st∧
  cI (e,AW f1 f2 f3 v0 e0 v4 e4 v5 e5 (Ae g s) tl) 6 31=s.rcv.ses∧
  cI (e,AW f1 f2 f3 v0 e0 v4 e4 v5 e5 (Ae g s) tl) 6 32=s.rcv.tot∧
  cL (e,AW f1 f2 f3 v0 e0 v4 e4 v5 e5 (Ae g s) tl) 6 33=s.rcv.known.map Span.enc∧
  cS (e,AW f1 f2 f3 v0 e0 v4 e4 v5 e5 (Ae g s) tl) 6 34=s.rcv.data∧
  AI (e,AW f1 f2 f3 v0 e0 v4 e4 v5 e5 (Ae g s) tl) 6 35=g.v0∧
  AL (e,AW f1 f2 f3 v0 e0 v4 e4 v5 e5 (Ae g s) tl) 6 35=g.pre.length∧
  AH (e,AW f1 f2 f3 v0 e0 v4 e4 v5 e5 (Ae g s) tl) 6 35=s.pend.length∧
  cB (e,AW f1 f2 f3 v0 e0 v4 e4 v5 e5 (Ae g s) tl) 6 36=s.rcvd∧
  cI (e,AW f1 f2 f3 v0 e0 v4 e4 v5 e5 (Ae g s) tl) 6 37=s.arrive∧
  cB (e,AW f1 f2 f3 v0 e0 v4 e4 v5 e5 (Ae g s) tl) 6 38=s.kno∧
  cI (e,AW f1 f2 f3 v0 e0 v4 e4 v5 e5 (Ae g s) tl) 6 39=s.knoAt)∧
 (∀(e:List AV) (f1 f2 f3:AF) (v0:Nat) (e0:List (List Tree)) (v4:Nat) (e4:List (List Tree)) (v5:Nat) (e5:List (List Tree)) (c:List AV) (tl:Heap),
  AB (e,AW f1 f2 f3 v0 e0 v4 e4 v5 e5 c tl) 0=v0∧
  oEs (e,AW f1 f2 f3 v0 e0 v4 e4 v5 e5 c tl) 0=e0∧
  AB (e,AW f1 f2 f3 v0 e0 v4 e4 v5 e5 c tl) 4=v4∧
  oEs (e,AW f1 f2 f3 v0 e0 v4 e4 v5 e5 c tl) 4=e4∧
  AB (e,AW f1 f2 f3 v0 e0 v4 e4 v5 e5 c tl) 5=v5∧
  oEs (e,AW f1 f2 f3 v0 e0 v4 e4 v5 e5 c tl) 5=e5∧
  AB (e,AW f1 f2 f3 v0 e0 v4 e4 v5 e5 c tl) 1=AF.ver f1∧
  oEs (e,AW f1 f2 f3 v0 e0 v4 e4 v5 e5 c tl) 1=Aq f1∧
  AB (e,AW f1 f2 f3 v0 e0 v4 e4 v5 e5 c tl) 2=AF.ver f2∧
  oEs (e,AW f1 f2 f3 v0 e0 v4 e4 v5 e5 c tl) 2=Aq f2∧
  AB (e,AW f1 f2 f3 v0 e0 v4 e4 v5 e5 c tl) 3=AF.ver f3∧
  oEs (e,AW f1 f2 f3 v0 e0 v4 e4 v5 e5 c tl) 3=Aq f3)∧
 (∀(e:List AV) (f1 f2 f3:AF) (v0:Nat) (e0:List (List Tree)) (v4:Nat) (e4:List (List Tree)) (v5:Nat) (e5:List (List Tree)) (c:List AV) (o0:AF) (tl:Heap),
  AB (e,AW f1 f2 f3 v0 e0 v4 e4 v5 e5 c (o0::tl)) 7=AF.ver o0∧
  oEs (e,AW f1 f2 f3 v0 e0 v4 e4 v5 e5 c (o0::tl)) 7=Aq o0)∧
 (∀(e:List AV) (f1 f2 f3:AF) (v0:Nat) (e0:List (List Tree)) (v4:Nat) (e4:List (List Tree)) (v5:Nat) (e5:List (List Tree)) (c:List AV) (o0:AF) (tl:Heap) (j:Nat),
  cI (e,AW f1 f2 f3 v0 e0 v4 e4 v5 e5 c (o0::tl)) 7 j=intOf (AD (cellOf o0 j))∧
  cB (e,AW f1 f2 f3 v0 e0 v4 e4 v5 e5 c (o0::tl)) 7 j=Av (AD (cellOf o0 j))∧
  cS (e,AW f1 f2 f3 v0 e0 v4 e4 v5 e5 c (o0::tl)) 7 j=strOf (AD (cellOf o0 j))∧
  cL (e,AW f1 f2 f3 v0 e0 v4 e4 v5 e5 c (o0::tl)) 7 j=Bm (AD (cellOf o0 j)))∧
 (∀(e:List AV) (f1 f2 f3:AF) (v0:Nat) (e0:List (List Tree)) (v4:Nat) (e4:List (List Tree)) (v5:Nat) (e5:List (List Tree)) (c:List AV) (o0 o1:AF) (tl:Heap),
  AB (e,AW f1 f2 f3 v0 e0 v4 e4 v5 e5 c (o0::o1::tl)) 8=AF.ver o1∧
  oEs (e,AW f1 f2 f3 v0 e0 v4 e4 v5 e5 c (o0::o1::tl)) 8=Aq o1)∧
 (∀(e:List AV) (f1 f2 f3:AF) (v0:Nat) (e0:List (List Tree)) (v4:Nat) (e4:List (List Tree)) (v5:Nat) (e5:List (List Tree)) (c:List AV) (o0 o1:AF) (tl:Heap) (j:Nat),
  cI (e,AW f1 f2 f3 v0 e0 v4 e4 v5 e5 c (o0::o1::tl)) 8 j=intOf (AD (cellOf o1 j))∧
  cB (e,AW f1 f2 f3 v0 e0 v4 e4 v5 e5 c (o0::o1::tl)) 8 j=Av (AD (cellOf o1 j))∧
  cS (e,AW f1 f2 f3 v0 e0 v4 e4 v5 e5 c (o0::o1::tl)) 8 j=strOf (AD (cellOf o1 j))∧
  cL (e,AW f1 f2 f3 v0 e0 v4 e4 v5 e5 c (o0::o1::tl)) 8 j=Bm (AD (cellOf o1 j)))∧
 (∀(e:List AV) (f1 f2 f3:AF) (v0:Nat) (e0:List (List Tree)) (v4:Nat) (e4:List (List Tree)) (v5:Nat) (e5:List (List Tree)) (c:List AV) (o0 o1 o2:AF) (tl:Heap),
  AB (e,AW f1 f2 f3 v0 e0 v4 e4 v5 e5 c (o0::o1::o2::tl)) 9=AF.ver o2∧
  oEs (e,AW f1 f2 f3 v0 e0 v4 e4 v5 e5 c (o0::o1::o2::tl)) 9=Aq o2)∧
 (∀(e:List AV) (f1 f2 f3:AF) (v0:Nat) (e0:List (List Tree)) (v4:Nat) (e4:List (List Tree)) (v5:Nat) (e5:List (List Tree)) (c:List AV) (o0 o1 o2:AF) (tl:Heap) (j:Nat),
  cI (e,AW f1 f2 f3 v0 e0 v4 e4 v5 e5 c (o0::o1::o2::tl)) 9 j=intOf (AD (cellOf o2 j))∧
  cB (e,AW f1 f2 f3 v0 e0 v4 e4 v5 e5 c (o0::o1::o2::tl)) 9 j=Av (AD (cellOf o2 j))∧
  cS (e,AW f1 f2 f3 v0 e0 v4 e4 v5 e5 c (o0::o1::o2::tl)) 9 j=strOf (AD (cellOf o2 j))∧
  cL (e,AW f1 f2 f3 v0 e0 v4 e4 v5 e5 c (o0::o1::o2::tl)) 9 j=Bm (AD (cellOf o2 j)))∧
 (∀(e:List AV) (f1 f2 f3:AF) (v0:Nat) (e0:List (List Tree)) (v4:Nat) (e4:List (List Tree)) (v5:Nat) (e5:List (List Tree)) (c:List AV) (o0 o1 o2 o3:AF) (tl:Heap),
  AB (e,AW f1 f2 f3 v0 e0 v4 e4 v5 e5 c (o0::o1::o2::o3::tl)) 10=AF.ver o3∧
  oEs (e,AW f1 f2 f3 v0 e0 v4 e4 v5 e5 c (o0::o1::o2::o3::tl)) 10=Aq o3)∧
 (∀(e:List AV) (f1 f2 f3:AF) (v0:Nat) (e0:List (List Tree)) (v4:Nat) (e4:List (List Tree)) (v5:Nat) (e5:List (List Tree)) (c:List AV) (o0 o1 o2 o3:AF) (tl:Heap) (j:Nat),
  cI (e,AW f1 f2 f3 v0 e0 v4 e4 v5 e5 c (o0::o1::o2::o3::tl)) 10 j=intOf (AD (cellOf o3 j))∧
  cB (e,AW f1 f2 f3 v0 e0 v4 e4 v5 e5 c (o0::o1::o2::o3::tl)) 10 j=Av (AD (cellOf o3 j))∧
  cS (e,AW f1 f2 f3 v0 e0 v4 e4 v5 e5 c (o0::o1::o2::o3::tl)) 10 j=strOf (AD (cellOf o3 j))∧
  cL (e,AW f1 f2 f3 v0 e0 v4 e4 v5 e5 c (o0::o1::o2::o3::tl)) 10 j=Bm (AD (cellOf o3 j)))∧
 (∀(e:List AV) (f1 f2 f3:AF) (v0:Nat) (e0:List (List Tree)) (v4:Nat) (e4:List (List Tree)) (v5:Nat) (e5:List (List Tree)) (c:List AV) (o0 o1 o2 o3 o4:AF) (tl:Heap),
  AB (e,AW f1 f2 f3 v0 e0 v4 e4 v5 e5 c (o0::o1::o2::o3::o4::tl)) 11=AF.ver o4∧
  oEs (e,AW f1 f2 f3 v0 e0 v4 e4 v5 e5 c (o0::o1::o2::o3::o4::tl)) 11=Aq o4)∧
 (∀(e:List AV) (f1 f2 f3:AF) (v0:Nat) (e0:List (List Tree)) (v4:Nat) (e4:List (List Tree)) (v5:Nat) (e5:List (List Tree)) (c:List AV) (o0 o1 o2 o3 o4:AF) (tl:Heap) (j:Nat),
  cI (e,AW f1 f2 f3 v0 e0 v4 e4 v5 e5 c (o0::o1::o2::o3::o4::tl)) 11 j=intOf (AD (cellOf o4 j))∧
  cB (e,AW f1 f2 f3 v0 e0 v4 e4 v5 e5 c (o0::o1::o2::o3::o4::tl)) 11 j=Av (AD (cellOf o4 j))∧
  cS (e,AW f1 f2 f3 v0 e0 v4 e4 v5 e5 c (o0::o1::o2::o3::o4::tl)) 11 j=strOf (AD (cellOf o4 j))∧
  cL (e,AW f1 f2 f3 v0 e0 v4 e4 v5 e5 c (o0::o1::o2::o3::o4::tl)) 11 j=Bm (AD (cellOf o4 j))):=by
 refine ⟨?_,?_,?_,?_,?_,?_,?_,?_,?_,?_,?_,?_⟩
 ·intros;exact ⟨rfl,rfl,rfl,rfl,rfl,rfl,rfl,rfl,rfl,rfl,rfl,rfl,rfl,rfl,rfl,rfl,rfl,rfl,rfl,rfl,rfl,rfl,rfl,rfl,rfl,rfl,rfl,rfl,rfl,rfl,rfl,rfl,rfl,rfl,rfl,rfl,rfl,rfl,rfl,rfl,rfl,rfl,rfl,rfl,rfl,rfl⟩
 ·intros;exact ⟨rfl,rfl,rfl,rfl,rfl,rfl,rfl,rfl,rfl,rfl,rfl,rfl⟩
 ·intros;exact ⟨rfl,rfl⟩
 ·intros;exact ⟨rfl,rfl,rfl,rfl⟩
 ·intros;exact ⟨rfl,rfl⟩
 ·intros;exact ⟨rfl,rfl,rfl,rfl⟩
 ·intros;exact ⟨rfl,rfl⟩
 ·intros;exact ⟨rfl,rfl,rfl,rfl⟩
 ·intros;exact ⟨rfl,rfl⟩
 ·intros;exact ⟨rfl,rfl,rfl,rfl⟩
 ·intros;exact ⟨rfl,rfl⟩
 ·intros;exact ⟨rfl,rfl,rfl,rfl⟩
variable (e:List AV) (g:Gh) (s:Ses) (f1 f2 f3:AF) (v0:Nat) (e0:List (List Tree)) (v4:Nat) (e4:List (List Tree)) (v5:Nat) (e5:List (List Tree))
theorem Xo (tl:Heap):rh (e,AW f1 f2 f3 v0 e0 v4 e4 v5 e5 (Ae g s) (tl)) 0 Bf=AW E0 E0 E0 v0 e0 v4 e4 v5 e5 (Ae g s) []:=by intros;rfl
theorem Xs (tl:Heap):rh (e,AW f1 f2 f3 v0 e0 v4 e4 v5 e5 (Ae g s) (tl)) 0 CB=AW (.row true f1.ver 15 (Aq f1)) (.row true f2.ver 4 (Aq f2)) (.row true f3.ver 4 (Aq f3)) v0 e0 v4 e4 v5 e5 (Ae g s) []:=by intros;rfl
theorem Xq (o0 o1:AF) (tl:Heap):rh (e,AW f1 f2 f3 v0 e0 v4 e4 v5 e5 (Ae g s) (o0::o1::tl)) 0 Dh=AW E0 E0 E0 v0 e0 v4 e4 v5 e5 (Ae g s) [.box [.t (tI (intOf (AD (cellOf o0 0))))],.box [.t (.bool (Av (AD (cellOf o1 0))))]]:=by intros;rfl
theorem Xm (o0:AF) (tl:Heap):rh (e,AW f1 f2 f3 v0 e0 v4 e4 v5 e5 (Ae g s) (o0::tl)) 0 Pb=AW E0 E0 E0 v0 e0 v4 e4 v5 e5 (Ae g s) [.box [.t (tI (intOf (AD (cellOf o0 0)))),.t (tI (intOf (AD (cellOf o0 1)))),.t (tI (intOf (AD (cellOf o0 2)))),.t (tI (intOf (AD (cellOf o0 3)))),.t (tI (intOf (AD (cellOf o0 4)))),.t (.bool (Av (AD (cellOf o0 5)))),.t (.str (strOf (AD (cellOf o0 6)))),.t (.sl 2 (Bm (AD (cellOf o0 7))))]]:=by intros;rfl
theorem Xk (o0:AF) (tl:Heap):rh (e,AW f1 f2 f3 v0 e0 v4 e4 v5 e5 (Ae g s) (o0::tl)) 0 Dr=AW E0 E0 E0 v0 e0 v4 e4 v5 e5 (Ae g s) [.row false o0.ver 8 (Aq o0)]:=by intros;rfl
theorem U6 (o0 o1:AF) (tl:Heap):rh (e,AW f1 f2 f3 v0 e0 v4 e4 v5 e5 (Ae g s) (o0::o1::tl)) 0 Lb=AW E0 E0 E0 v0 e0 v4 e4 v5 e5 (Ae g s) [.row false o0.ver 8 (Aq o0),.box [.t (tI (intOf (AD (cellOf o1 0)))),.t (tI (intOf (AD (cellOf o1 1)))),.t (tI (intOf (AD (cellOf o1 2)))),.t (tI (intOf (AD (cellOf o1 3)))),.t (tI (intOf (AD (cellOf o1 4)))),.t (.bool (Av (AD (cellOf o1 5)))),.t (.str (strOf (AD (cellOf o1 6)))),.t (.sl 2 (Bm (AD (cellOf o1 7))))]]:=by intros;rfl
theorem U4 (o0 o1 o2:AF) (tl:Heap):rh (e,AW f1 f2 f3 v0 e0 v4 e4 v5 e5 (Ae g s) (o0::o1::o2::tl)) 0 JY=AW (.row true f1.ver 15 (Aq f1)) (.row true f2.ver 4 (Aq f2)) (.row true f3.ver 4 (Aq f3)) v0 e0 v4 e4 v5 e5 (Ae g s) [.row false o0.ver 8 (Aq o0),.box [.t (tI (intOf (AD (cellOf o1 0)))),.t (tI (intOf (AD (cellOf o1 1)))),.t (.sl 2 (Bm (AD (cellOf o1 2)))),.t (.str (strOf (AD (cellOf o1 3))))],.box [.t (tI (intOf (AD (cellOf o2 0)))),.t (tI (intOf (AD (cellOf o2 1)))),.t (tI (intOf (AD (cellOf o2 2)))),.t (tI (intOf (AD (cellOf o2 3)))),.t (tI (intOf (AD (cellOf o2 4)))),.t (.bool (Av (AD (cellOf o2 5)))),.t (.str (strOf (AD (cellOf o2 6)))),.t (.sl 2 (Bm (AD (cellOf o2 7))))]]:=by intros;rfl
theorem U2 (o0 o1 o2:AF) (tl:Heap):rh (e,AW f1 f2 f3 v0 e0 v4 e4 v5 e5 (Ae g s) (o0::o1::o2::tl)) 0 Cd=AW E0 E0 E0 v0 e0 v4 e4 v5 e5 (Ae g s) [.row false o0.ver 8 (Aq o0),.box [.t (tI (intOf (AD (cellOf o1 0)))),.t (tI (intOf (AD (cellOf o1 1)))),.t (.sl 2 (Bm (AD (cellOf o1 2)))),.t (.str (strOf (AD (cellOf o1 3))))],.box [.t (tI (intOf (AD (cellOf o2 0)))),.t (tI (intOf (AD (cellOf o2 1)))),.t (tI (intOf (AD (cellOf o2 2)))),.t (tI (intOf (AD (cellOf o2 3)))),.t (tI (intOf (AD (cellOf o2 4)))),.t (.bool (Av (AD (cellOf o2 5)))),.t (.str (strOf (AD (cellOf o2 6)))),.t (.sl 2 (Bm (AD (cellOf o2 7))))]]:=by intros;rfl
theorem U0 (o0 o1 o2 o3:AF) (tl:Heap):rh (e,AW f1 f2 f3 v0 e0 v4 e4 v5 e5 (Ae g s) (o0::o1::o2::o3::tl)) 0 La=AW E0 E0 E0 v0 e0 v4 e4 v5 e5 (Ae g s) [.row false o0.ver 8 (Aq o0),.box [.t (tI (intOf (AD (cellOf o1 0)))),.t (tI (intOf (AD (cellOf o1 1)))),.t (.sl 2 (Bm (AD (cellOf o1 2)))),.t (.str (strOf (AD (cellOf o1 3))))],.box [.t (tI (intOf (AD (cellOf o2 0)))),.t (tI (intOf (AD (cellOf o2 1)))),.t (tI (intOf (AD (cellOf o2 2)))),.t (tI (intOf (AD (cellOf o2 3)))),.t (tI (intOf (AD (cellOf o2 4)))),.t (.bool (Av (AD (cellOf o2 5)))),.t (.str (strOf (AD (cellOf o2 6)))),.t (.sl 2 (Bm (AD (cellOf o2 7))))],.box [.t (tI (intOf (AD (cellOf o3 0)))),.t (.sl 10 (Bm (AD (cellOf o3 1)))),.t (tI (intOf (AD (cellOf o3 2)))),.t (tI (intOf (AD (cellOf o3 3))))]]:=by intros;rfl
theorem Uy (o0 o1:AF) (tl:Heap):rh (e,AW f1 f2 f3 v0 e0 v4 e4 v5 e5 (Ae g s) (o0::o1::tl)) 0 OG=AW E0 E0 E0 v0 e0 v4 e4 v5 e5 (Ae g s) [.row false o0.ver 8 (Aq o0),.box [.t (tI (intOf (AD (cellOf o1 0)))),.t (tI (intOf (AD (cellOf o1 1)))),.t (.sl 2 (Bm (AD (cellOf o1 2)))),.t (.str (strOf (AD (cellOf o1 3))))]]:=by intros;rfl
theorem Uw (o0:AF) (tl:Heap):rh (e,AW f1 f2 f3 v0 e0 v4 e4 v5 e5 (Ae g s) (o0::tl)) 0 LZ=AW E0 E0 E0 v0 e0 v4 e4 v5 e5 (Ae g s) [.box [.t (tI (intOf (AD (cellOf o0 0)))),.t (.sl 10 (Bm (AD (cellOf o0 1)))),.t (tI (intOf (AD (cellOf o0 2)))),.t (tI (intOf (AD (cellOf o0 3))))]]:=by intros;rfl
theorem Xh (x y:AF):upd (rh (e,AW f1 f2 f3 v0 e0 v4 e4 v5 e5 (Ae g s) []) 0 Dh) [(7,x),(8,y)]=AW E0 E0 E0 v0 e0 v4 e4 v5 e5 (Ae g s) [x,y]:=by intros;rfl
theorem Xf (x:AF):upd (rh (e,AW f1 f2 f3 v0 e0 v4 e4 v5 e5 (Ae g s) []) 0 Pb) [(7,x)]=AW E0 E0 E0 v0 e0 v4 e4 v5 e5 (Ae g s) [x]:=by intros;rfl
theorem Xd (x:AF):upd (rh (e,AW f1 f2 f3 v0 e0 v4 e4 v5 e5 (Ae g s) []) 0 Dr) [(7,x)]=AW E0 E0 E0 v0 e0 v4 e4 v5 e5 (Ae g s) [x]:=by intros;rfl
theorem Uu (o0:AF) (x y:AF):upd (rh (e,AW f1 f2 f3 v0 e0 v4 e4 v5 e5 (Ae g s) [o0]) 0 Lb) [(7,x),(8,y)]=AW E0 E0 E0 v0 e0 v4 e4 v5 e5 (Ae g s) [x,y]:=by intros;rfl
theorem Uo (o0:AF) (y:AF):upd (rh (e,AW f1 f2 f3 v0 e0 v4 e4 v5 e5 (Ae g s) [o0]) 0 OG) [(8,y)]=AW E0 E0 E0 v0 e0 v4 e4 v5 e5 (Ae g s) [.row false o0.ver 8 (Aq o0),y]:=by intros;rfl
theorem Uq (o0 o1 o2:AF) (y:AF):upd (rh (e,AW f1 f2 f3 v0 e0 v4 e4 v5 e5 (Ae g s) [o0,o1,o2]) 0 La) [(10,y)]=AW E0 E0 E0 v0 e0 v4 e4 v5 e5 (Ae g s) [.row false o0.ver 8 (Aq o0),.box [.t (tI (intOf (AD (cellOf o1 0)))),.t (tI (intOf (AD (cellOf o1 1)))),.t (.sl 2 (Bm (AD (cellOf o1 2)))),.t (.str (strOf (AD (cellOf o1 3))))],.box [.t (tI (intOf (AD (cellOf o2 0)))),.t (tI (intOf (AD (cellOf o2 1)))),.t (tI (intOf (AD (cellOf o2 2)))),.t (tI (intOf (AD (cellOf o2 3)))),.t (tI (intOf (AD (cellOf o2 4)))),.t (.bool (Av (AD (cellOf o2 5)))),.t (.str (strOf (AD (cellOf o2 6)))),.t (.sl 2 (Bm (AD (cellOf o2 7))))],y]:=by intros;rfl
theorem Um (y:AF):upd (rh (e,AW f1 f2 f3 v0 e0 v4 e4 v5 e5 (Ae g s) []) 0 LZ) [(7,y)]=AW E0 E0 E0 v0 e0 v4 e4 v5 e5 (Ae g s) [y]:=by intros;rfl
theorem Us (o0 o1 x y z w:AF):upd (rh (e,AW f1 f2 f3 v0 e0 v4 e4 v5 e5 (Ae g s) [o0,o1]) 0 JY) [(1,x),(2,y),(3,z),(9,w)]=AW x y z v0 e0 v4 e4 v5 e5 (Ae g s) [.row false o0.ver 8 (Aq o0),.box [.t (tI (intOf (AD (cellOf o1 0)))),.t (tI (intOf (AD (cellOf o1 1)))),.t (.sl 2 (Bm (AD (cellOf o1 2)))),.t (.str (strOf (AD (cellOf o1 3))))],w]:=by intros;rfl
theorem RJ (o0 y:AF) (d:List AV):upd (rh (e,AW f1 f2 f3 v0 e0 v4 e4 v5 e5 (Ae g s) [o0]) 0 OG) [(6,.box d),(8,y)]=AW E0 E0 E0 v0 e0 v4 e4 v5 e5 d [.row false o0.ver 8 (Aq o0),y]:=by intros;rfl
theorem Q5 (x y z:AF) (c:List AV) (tl:Heap):upd (AW f1 f2 f3 v0 e0 v4 e4 v5 e5 c tl) [(1,x),(2,y),(3,z)]=AW x y z v0 e0 v4 e4 v5 e5 c tl:=by intros;rfl
theorem OZ (x y z w o0 o1 o2:AF) (c:List AV) (tl:Heap):upd (AW f1 f2 f3 v0 e0 v4 e4 v5 e5 c (o0::o1::o2::tl)) [(1,x),(2,y),(3,z),(9,w)]=AW x y z v0 e0 v4 e4 v5 e5 c (o0::o1::w::tl):=by intros;rfl
theorem W6 (d:List AV) (c:List AV) (tl:Heap):upd (AW f1 f2 f3 v0 e0 v4 e4 v5 e5 c tl) [(6,.box d)]=AW f1 f2 f3 v0 e0 v4 e4 v5 e5 d tl:=by intros;rfl
theorem US (d:List AV) (w:Nat) (r:List (List Tree)) (c:List AV) (tl:Heap):upd (AW f1 f2 f3 v0 e0 v4 e4 v5 e5 c tl) [(0,.row false w 9 r),(6,.box d)]=AW f1 f2 f3 w r v4 e4 v5 e5 d tl:=by intros;rfl
theorem UQ (d:List AV) (w:Nat) (r:List (List Tree)) (c:List AV) (tl:Heap):upd (AW f1 f2 f3 v0 e0 v4 e4 v5 e5 c tl) [(4,.row false w 9 r),(6,.box d)]=AW f1 f2 f3 v0 e0 w r v5 e5 d tl:=by intros;rfl
theorem UO (d:List AV) (w:Nat) (r:List (List Tree)) (c:List AV) (tl:Heap):upd (AW f1 f2 f3 v0 e0 v4 e4 v5 e5 c tl) [(5,.row false w 9 r),(6,.box d)]=AW f1 f2 f3 v0 e0 v4 e4 w r d tl:=by intros;rfl
theorem W4 (x o0:AF) (c:List AV) (tl:Heap):upd (AW f1 f2 f3 v0 e0 v4 e4 v5 e5 c (o0::tl)) [(7,x)]=AW f1 f2 f3 v0 e0 v4 e4 v5 e5 c (x::tl):=by intros;rfl
theorem UI (x y o0 o1:AF) (c:List AV) (tl:Heap):upd (AW f1 f2 f3 v0 e0 v4 e4 v5 e5 c (o0::o1::tl)) [(7,x),(8,y)]=AW f1 f2 f3 v0 e0 v4 e4 v5 e5 c (x::y::tl):=by intros;rfl
theorem UM (x o0:AF) (d:List AV) (c:List AV) (tl:Heap):upd (AW f1 f2 f3 v0 e0 v4 e4 v5 e5 c (o0::tl)) [(6,.box d),(7,x)]=AW f1 f2 f3 v0 e0 v4 e4 v5 e5 d (x::tl):=by intros;rfl
theorem UK (x o0 o1:AF) (d:List AV) (c:List AV) (tl:Heap):upd (AW f1 f2 f3 v0 e0 v4 e4 v5 e5 c (o0::o1::tl)) [(6,.box d),(8,x)]=AW f1 f2 f3 v0 e0 v4 e4 v5 e5 d (o0::x::tl):=by intros;rfl
theorem Xx (tl:Heap):rb (e,AW f1 f2 f3 v0 e0 v4 e4 v5 e5 (Ae g s) tl) 6 0 BK=Ae g s:=by intros;rfl
theorem XG (a b d:Int) (fs:List Frame):upd (Ae g s) [(0,.t (tI a)),(1,.t (.sl 10 (fs.map Frame.enc))),(2,.t (tI b)),(3,.t (tI d))]=Ae g {s with dat:=⟨a,fs,b,d⟩}:=by kernel_rfl
theorem XC (a b d:Int) (fs:List Frame):upd (Ae g s) [(4,.t (tI a)),(5,.t (.sl 10 (fs.map Frame.enc))),(6,.t (tI b)),(7,.t (tI d))]=Ae g {s with rep:=⟨a,fs,b,d⟩}:=by kernel_rfl
theorem XE (a:Int):upd (Ae g s) [(15,.t (tI a))]=Ae g {s with now:=a}:=by kernel_rfl
theorem UX (a:Int):upd (Ae g s) [(12,.t (tI a))]=Ae g {s with dist:=a}:=by kernel_rfl
theorem XA (a:Snd):upd (Ae g s) [(16,.t (tI a.c.frm)),(17,.t (tI a.c.dst)),(18,.t (tI a.c.start)),(19,.t (tI a.c.fin)),(20,.t (tI a.c.rate)),(21,.t (tI a.c.rng)),(22,.t (tI a.c.loss)),(23,.t (tI a.ses)),(24,.t (.str a.data)),(25,.t (tI a.fin)),(26,.t (tI a.busy)),(27,.t (tI a.ser)),(28,.t (.sl 2 (a.acked.map Span.enc))),(29,.t (tI a.due)),(30,.t (tI a.st))]=Ae g {s with snd:=a}:=by kernel_rfl
theorem UU (a:Snd) (k:Bool) (t:Int):upd (Ae g s) [(16,.t (tI a.c.frm)),(17,.t (tI a.c.dst)),(18,.t (tI a.c.start)),(19,.t (tI a.c.fin)),(20,.t (tI a.c.rate)),(21,.t (tI a.c.rng)),(22,.t (tI a.c.loss)),(23,.t (tI a.ses)),(24,.t (.str a.data)),(25,.t (tI a.fin)),(26,.t (tI a.busy)),(27,.t (tI a.ser)),(28,.t (.sl 2 (a.acked.map Span.enc))),(29,.t (tI a.due)),(30,.t (tI a.st)),(38,.t (.bool k)),(39,.t (tI t))]=Ae g {s with snd:=a,kno:=k,knoAt:=t}:=by kernel_rfl
theorem W8 (a:Rcv):upd (Ae g s) [(31,.t (tI a.ses)),(32,.t (tI a.tot)),(33,.t (.sl 2 (a.known.map Span.enc))),(34,.t (.str a.data))]=Ae g {s with rcv:=a}:=by kernel_rfl
theorem XI (k:Bool) (t:Int):upd (Ae g s) [(36,.t (.bool k)),(37,.t (tI t))]=Ae g {s with rcvd:=k,arrive:=t}:=by kernel_rfl
theorem Ja (a:Snd) (w:Nat) (o:List Out):upd (Ae g s) [(16,.t (tI a.c.frm)),(17,.t (tI a.c.dst)),(18,.t (tI a.c.start)),(19,.t (tI a.c.fin)),(20,.t (tI a.c.rate)),(21,.t (tI a.c.rng)),(22,.t (tI a.c.loss)),(23,.t (tI a.ses)),(24,.t (.str a.data)),(25,.t (tI a.fin)),(26,.t (tI a.busy)),(27,.t (tI a.ser)),(28,.t (.sl 2 (a.acked.map Span.enc))),(29,.t (tI a.due)),(30,.t (tI a.st)),(35,.sref 0 w 0 (s.pend.length+o.length))]=Ae {g with v0:=w,pre:=[]} {s with snd:=a,pend:=s.pend++o}:=by rw [← length_append];kernel_rfl
theorem MP (a:Snd) (w:Nat) (o:List Out) (k:Bool) (t:Int):upd (Ae g s) [(16,.t (tI a.c.frm)),(17,.t (tI a.c.dst)),(18,.t (tI a.c.start)),(19,.t (tI a.c.fin)),(20,.t (tI a.c.rate)),(21,.t (tI a.c.rng)),(22,.t (tI a.c.loss)),(23,.t (tI a.ses)),(24,.t (.str a.data)),(25,.t (tI a.fin)),(26,.t (tI a.busy)),(27,.t (tI a.ser)),(28,.t (.sl 2 (a.acked.map Span.enc))),(29,.t (tI a.due)),(30,.t (tI a.st)),(35,.sref 0 w 0 (s.pend.length+o.length)),(38,.t (.bool k)),(39,.t (tI t))]=Ae {g with v0:=w,pre:=[]} {s with snd:=a,pend:=s.pend++o,kno:=k,knoAt:=t}:=by rw [← length_append];kernel_rfl
theorem ucP_28 (x:Out) (l:List Out) (hp:s.pend=x::l):upd (Ae g s) [(35,.sref 0 g.v0 (g.pre.length+1) (s.pend.length-1))]=Ae {g with pre:=g.pre++[x.enc]} {s with pend:=l}:=by rw [show s.pend.length-1=l.length by rw [hp];rfl,show g.pre.length+1=(g.pre++[x.enc]).length by simp];kernel_rfl
theorem Je (a b d:Int) (fs:List Frame) (e:Int) (w:Nat) (x:Out):upd (Ae g s) [(0,.t (tI a)),(1,.t (.sl 10 (fs.map Frame.enc))),(2,.t (tI b)),(3,.t (tI d)),(11,.t (tI e)),(13,.sref 4 w 0 (s.sent.length+1))]=Ae {g with v4:=w} {s with dat:=⟨a,fs,b,d⟩,entered:=e,sent:=s.sent++[x]}:=by rw [show s.sent.length+1=(s.sent++[x]).length by simp];kernel_rfl
theorem L6 (a b d:Int) (fs:List Frame) (e u:Int) (w:Nat) (x:Out):upd (Ae g s) [(0,.t (tI a)),(1,.t (.sl 10 (fs.map Frame.enc))),(2,.t (tI b)),(3,.t (tI d)),(11,.t (tI e)),(12,.t (tI u)),(13,.sref 4 w 0 (s.sent.length+1))]=Ae {g with v4:=w} {s with dat:=⟨a,fs,b,d⟩,entered:=e,dist:=u,sent:=s.sent++[x]}:=by rw [show s.sent.length+1=(s.sent++[x]).length by simp];kernel_rfl
theorem Jc (a b d:Int) (fs:List Frame) (e:Int) (w:Nat) (x:Out):upd (Ae g s) [(4,.t (tI a)),(5,.t (.sl 10 (fs.map Frame.enc))),(6,.t (tI b)),(7,.t (tI d)),(11,.t (tI e)),(14,.sref 5 w 0 (s.told.length+1))]=Ae {g with v5:=w} {s with rep:=⟨a,fs,b,d⟩,entered:=e,told:=s.told++[x]}:=by rw [show s.told.length+1=(s.told++[x]).length by simp];kernel_rfl
theorem L4 (a b d:Int) (fs:List Frame) (e u:Int) (w:Nat) (x:Out):upd (Ae g s) [(4,.t (tI a)),(5,.t (.sl 10 (fs.map Frame.enc))),(6,.t (tI b)),(7,.t (tI d)),(11,.t (tI e)),(12,.t (tI u)),(14,.sref 5 w 0 (s.told.length+1))]=Ae {g with v5:=w} {s with rep:=⟨a,fs,b,d⟩,entered:=e,dist:=u,told:=s.told++[x]}:=by rw [show s.told.length+1=(s.told++[x]).length by simp];kernel_rfl
theorem BD:type_of% (And.intro @rd28 (And.intro @Xo (And.intro @Xs (And.intro @Xq (And.intro @Xm (And.intro @Xk (And.intro @U6 (And.intro @U4 (And.intro @U2 (And.intro @U0 (And.intro @Uy (And.intro @Uw (And.intro @Xh (And.intro @Xf (And.intro @Xd (And.intro @Uu (And.intro @Uo (And.intro @Uq (And.intro @Um (And.intro @Us (And.intro @RJ (And.intro @Q5 (And.intro @OZ (And.intro @W6 (And.intro @US (And.intro @UQ (And.intro @UO (And.intro @W4 (And.intro @UI (And.intro @UM (And.intro @UK (And.intro @Xx (And.intro @XG (And.intro @XC (And.intro @XE (And.intro @UX (And.intro @XA (And.intro @UU (And.intro @W8 (And.intro @XI (And.intro @Ja @MP))))))))))))))))))))))))))))))))))))))))):=(And.intro @rd28 (And.intro @Xo (And.intro @Xs (And.intro @Xq (And.intro @Xm (And.intro @Xk (And.intro @U6 (And.intro @U4 (And.intro @U2 (And.intro @U0 (And.intro @Uy (And.intro @Uw (And.intro @Xh (And.intro @Xf (And.intro @Xd (And.intro @Uu (And.intro @Uo (And.intro @Uq (And.intro @Um (And.intro @Us (And.intro @RJ (And.intro @Q5 (And.intro @OZ (And.intro @W6 (And.intro @US (And.intro @UQ (And.intro @UO (And.intro @W4 (And.intro @UI (And.intro @UM (And.intro @UK (And.intro @Xx (And.intro @XG (And.intro @XC (And.intro @XE (And.intro @UX (And.intro @XA (And.intro @UU (And.intro @W8 (And.intro @XI (And.intro @Ja @MP)))))))))))))))))))))))))))))))))))))))))
end Ab
set_option linter.unusedVariables false
set_option linter.unusedSimpArgs false
set_option maxRecDepth 100000
namespace Ab
open Go
theorem entD_28 (g:Gh) (s:Ses) (x:Seg) (f1 f2 f3:AF) (hc:EOk s s.dat) :
  Ev fun n=>∀again,ZZ n (fI C n) again ([.ptr 6 0,.ptr 6 0,.t (tI 0),.t (tI s.now),.agg (BH x)],H28 f1 f2 f3 g s [])=again ([],H28 E0 E0 E0 {g with v4:=g.v4+1} (Cs s x) []):=by
 have q1:¬(10000:Int)≤s.entered:=by have:=hc.ent;omega
 have q2:w64 (s.entered+1)=s.entered+1:=by have:=hc.ent;exact Ad (by omega) (by omega)
 have q3:w64 (s.dist+1)=s.dist+1:=by have:=hc.dst;exact Ad (by omega) (by omega)
 have q4:s.sent.length+1≤1073741824:=by have:=hc.sl;omega
 have q5:take s.sent.length (List.map Out.enc s.sent)=List.map Out.enc s.sent:=take_of_length_le (by simp);have key:=fun (ds:List Int) (hd:∀d∈ds,s.dat.rng≤d∧d≤2*s.dat.rng) (hl:ds.length≤2)=>s156 s.dat hc.gc s.now x hc.now ds hd (by have:=hc.len;omega);have kR:∀d∈[s.dat.rng],s.dat.rng≤d∧d≤2*s.dat.rng:=by have:=hc.gc.rng;simp;omega
 simp only [BY.enc,cons_append,nil_append] at key;by_cases h0:J8 s.dark s.now=true
 ·rw [E3 s x [] s.dist (by simp [B7,h0])];refine ((GJ s.dark s.now).and (key [] (by simp) (by simp))).mono fun n h again => ?_;obtain ⟨h1,h2⟩:=h;simp only [map_nil] at h2;simp only [H28,GV,H2,BH,BD,vv2,vf,reduceCtorEq,reduceAdd,reduceEqDiff,h1,h0,h2,AO,AK,q1,q2,q3,q4,q5,bne_self_eq_false,le_refl,Je (x:=⟨s.now,x⟩),map_append,map_cons,map_nil,Out.enc]
 ·have h0:J8 s.dark s.now=false:=by simpa using h0
  by_cases h5:s.picks=[]
  ·rw [E3 s x [s.dat.rng] s.dist (by simp [B7,h0,h5])];refine ((GJ s.dark s.now).and (key [s.dat.rng] kR (by simp))).mono fun n h again => ?_;obtain ⟨h1,h2⟩:=h;simp only [map_cons,map_nil,Bh] at h2;have h5':(s.picks.length:Int)=0:=by simp [h5]
   simp only [H28,GV,H2,BH,BD,vv2,vf,reduceCtorEq,reduceAdd,reduceEqDiff,h1,h0,h2,h5',beq_self_eq_true,AO,AK,q1,q2,q3,q4,q5,bne_self_eq_false,le_refl,Je (x:=⟨s.now,x⟩),map_append,map_cons,map_nil,Out.enc]
  ·have hpos:=length_pos_iff.2 h5;have h6:¬(s.picks.length:Int)=0:=by omega
   have h6':((s.picks.length:Int)==0)=false:=by simpa using h6
   have hm1:=emod_nonneg s.entered h6;have hm2:=emod_lt_of_pos s.entered (show (0:Int)<s.picks.length by omega);have hm:tmod s.entered s.picks.length=s.entered % s.picks.length:=Int.tmod_eq_emod_of_nonneg hc.ent.1;obtain ⟨p,hp⟩:∃p,s.picks[(s.entered % s.picks.length).toNat]? = some p:=⟨_,getElem?_eq_getElem (by omega)⟩
   have hg:s.picks.getD (s.entered % s.picks.length).toNat 0=p:=by rw [getD_eq_getElem?_getD,hp];rfl
   have hpk:=hc.pk p (mem_of_getElem? hp);have hrg:=hc.gc.rng;have k176:=s176 p s.dat.rng hpk hrg;have kf:=key (BL p s.dat.rng) (fun d hd=>GO hrg.1 hd) (GP _ _);have kr:=key [s.dat.rng] kR (by simp);have c1:∀z:Int×List (List Tree),True:=fun _=>trivial;by_cases h7:(BL p s.dat.rng).head? = some s.dat.rng
   ·rw [E3 s x (BL p s.dat.rng) s.dist (by simp only [B7,h0,h5,hg,h7,if_true,if_false,false_eq_true])];obtain ⟨l,hl⟩:∃l,BL p s.dat.rng=s.dat.rng::l:=by
     cases hf:BL p s.dat.rng with
     |nil=>rw [hf] at h7;cases h7
     |cons a l=>rw [hf] at h7;cases h7;exact ⟨l,rfl⟩
    rw [hl] at kf k176 ⊢;refine ((GJ s.dark s.now).and (k176.and kf)).mono fun n h again => ?_;obtain ⟨h1,h2,h3⟩:=h;simp only [map_cons,Bh] at h2 h3;simp only [H28,GV,H2,Dt,H7,Dt,H6,BH,BD,vv2,vf,reduceCtorEq,reduceAdd,reduceEqDiff,h1,h0,h2,h3,h6,h6',hm,hm1,hp,map_cons,Bh,getElem?_cons_zero,(show (0:Int)<((l.length+1:Nat):Int) by omega),beq_self_eq_true,AO,AK,q1,q2,q3,q4,q5,bne_self_eq_false,le_refl,Je (x:=⟨s.now,x⟩),map_append,map_nil,Out.enc]
   ·have h8:∀y:Int,((BL p s.dat.rng).map Bh)[0]? = some [tI y]→(y==s.dat.rng)=false:=by
     intro y hy;cases hf:BL p s.dat.rng with
     |nil=>rw [hf] at hy;cases hy
     |cons a l=>
      rw [hf] at hy h7;cases hy;simp at h7;simpa using h7
    have k8:(BL p s.dat.rng).length=0∨∃y,0<(BL p s.dat.rng).length∧((BL p s.dat.rng).map Bh)[0]? = some [tI y]∧(y==s.dat.rng)=false:=by
     cases hf:BL p s.dat.rng with
     |nil=>exact .inl rfl
     |cons a l=>exact .inr ⟨a,by simp,rfl,h8 a (by rw [hf];rfl)⟩
    by_cases h9:0≤s.limit∧s.limit≤s.dist
    ·rw [E3 s x [s.dat.rng] s.dist (by simp only [B7,h0,h5,hg,h7,h9,if_true,if_false,false_eq_true,and_self])];refine ((GJ s.dark s.now).and (k176.and kr)).mono fun n h again => ?_;obtain ⟨h1,h2,h3⟩:=h;simp only [map_cons,map_nil,Bh] at h3;rcases k8 with k8|⟨y,k8,k9,k10⟩
     ·simp only [H28,GV,H2,Dt,H7,Dt,H6,BH,BD,vv2,vf,reduceCtorEq,reduceAdd,reduceEqDiff,h1,h0,h2,h3,h6,h6',hm,hm1,hp,map_cons,Bh,k8,natCast_zero,lt_irrefl,h9,beq_self_eq_true,AO,AK,q1,q2,q3,q4,q5,bne_self_eq_false,le_refl,Je (x:=⟨s.now,x⟩),map_append,map_nil,Out.enc]
     ·simp only [H28,GV,H2,Dt,H7,Dt,H6,BH,BD,vv2,vf,reduceCtorEq,reduceAdd,reduceEqDiff,h1,h0,h2,h3,h6,h6',hm,hm1,hp,map_cons,Bh,(show (0:Int)<((BL p s.dat.rng).length:Int) by omega),k9,k10,h9,beq_self_eq_true,AO,AK,q1,q2,q3,q4,q5,bne_self_eq_false,le_refl,Je (x:=⟨s.now,x⟩),map_append,map_nil,Out.enc]
    ·rw [E3 s x (BL p s.dat.rng) (s.dist+1) (by simp only [B7,h0,h5,hg,h7,h9,if_true,if_false,false_eq_true,and_self])];refine ((GJ s.dark s.now).and (k176.and kf)).mono fun n h again => ?_;obtain ⟨h1,h2,h3⟩:=h;have h9':(0≤s.limit→¬s.limit≤s.dist):=fun a b=>h9 ⟨a,b⟩;by_cases h10:0≤s.limit
     ·have h11:=h9' h10;rcases k8 with k8|⟨y,k8,k9,k10⟩
      ·simp only [H28,GV,H2,Dt,H7,Dt,H6,BH,BD,vv2,vf,reduceCtorEq,reduceAdd,reduceEqDiff,h1,h0,h2,h3,h6,h6',hm,hm1,hp,map_cons,Bh,k8,natCast_zero,lt_irrefl,h10,h11,beq_self_eq_true,AO,AK,q1,q2,q3,q4,q5,bne_self_eq_false,le_refl,L6 (x:=⟨s.now,x⟩),map_append,map_nil,Out.enc]
      ·simp only [H28,GV,H2,Dt,H7,Dt,H6,BH,BD,vv2,vf,reduceCtorEq,reduceAdd,reduceEqDiff,h1,h0,h2,h3,h6,h6',hm,hm1,hp,map_cons,Bh,(show (0:Int)<((BL p s.dat.rng).length:Int) by omega),k9,k10,h10,h11,beq_self_eq_true,AO,AK,q1,q2,q3,q4,q5,bne_self_eq_false,le_refl,L6 (x:=⟨s.now,x⟩),map_append,map_nil,Out.enc]
     ·rcases k8 with k8|⟨y,k8,k9,k10⟩
      ·simp only [H28,GV,H2,Dt,H7,Dt,H6,BH,BD,vv2,vf,reduceCtorEq,reduceAdd,reduceEqDiff,h1,h0,h2,h3,h6,h6',hm,hm1,hp,map_cons,Bh,k8,natCast_zero,lt_irrefl,h10,beq_self_eq_true,AO,AK,q1,q2,q3,q4,q5,bne_self_eq_false,le_refl,L6 (x:=⟨s.now,x⟩),map_append,map_nil,Out.enc]
      ·simp only [H28,GV,H2,Dt,H7,Dt,H6,BH,BD,vv2,vf,reduceCtorEq,reduceAdd,reduceEqDiff,h1,h0,h2,h3,h6,h6',hm,hm1,hp,map_cons,Bh,(show (0:Int)<((BL p s.dat.rng).length:Int) by omega),k9,k10,h10,beq_self_eq_true,AO,AK,q1,q2,q3,q4,q5,bne_self_eq_false,le_refl,L6 (x:=⟨s.now,x⟩),map_append,map_nil,Out.enc]
theorem entR_28 (g:Gh) (s:Ses) (x:Seg) (f1 f2 f3:AF) (hc:EOk s s.rep) (v8:Nat) (e8:List (List Tree)) (a b:Int) (ks:List (List Tree)) (bd:ByteArray) (y:Seg) :
  Ev fun n=>∀again,Zb n (fI C n) again ([.ptr 6 0,.ptr 6 4,.t (tI 1),.t (tI s.now),.agg (BH x)],H28 f1 f2 f3 g s [.row false v8 8 e8,.box [.t (tI a),.t (tI b),.t (.sl 2 ks),.t (.str bd)],.box (BH y)])=again ([],H28 E0 E0 E0 {g with v5:=g.v5+1} (Cv s x) [.row false v8 8 e8,.box [.t (tI a),.t (tI b),.t (.sl 2 ks),.t (.str bd)],.box (BH y)]):=by
 have q1:¬(10000:Int)≤s.entered:=by have:=hc.ent;omega
 have q2:w64 (s.entered+1)=s.entered+1:=by have:=hc.ent;exact Ad (by omega) (by omega)
 have q3:w64 (s.dist+1)=s.dist+1:=by have:=hc.dst;exact Ad (by omega) (by omega)
 have q4:s.told.length+1≤1073741824:=by have:=hc.sl;omega
 have q5:take s.told.length (List.map Out.enc s.told)=List.map Out.enc s.told:=take_of_length_le (by simp);have key:=fun (ds:List Int) (hd:∀d∈ds,s.rep.rng≤d∧d≤2*s.rep.rng) (hl:ds.length≤2)=>s156 s.rep hc.gc s.now x hc.now ds hd (by have:=hc.len;omega);have kR:∀d∈[s.rep.rng],s.rep.rng≤d∧d≤2*s.rep.rng:=by have:=hc.gc.rng;simp;omega
 simp only [BY.enc,cons_append,nil_append] at key;by_cases h0:J8 s.dark s.now=true
 ·rw [E2 s x [] s.dist (by simp [B7,h0])];refine ((GJ s.dark s.now).and (key [] (by simp) (by simp))).mono fun n h again => ?_;obtain ⟨h1,h2⟩:=h;simp only [map_nil] at h2;simp only [H28,GW,H3,BH,BD,vv2,vf,reduceCtorEq,reduceAdd,reduceEqDiff,h1,h0,h2,AO,AK,q1,q2,q3,q4,q5,bne_self_eq_false,le_refl,Jc (x:=⟨s.now,x⟩),map_append,map_cons,map_nil,Out.enc]
 ·have h0:J8 s.dark s.now=false:=by simpa using h0
  by_cases h5:s.picks=[]
  ·rw [E2 s x [s.rep.rng] s.dist (by simp [B7,h0,h5])];refine ((GJ s.dark s.now).and (key [s.rep.rng] kR (by simp))).mono fun n h again => ?_;obtain ⟨h1,h2⟩:=h;simp only [map_cons,map_nil,Bh] at h2;have h5':(s.picks.length:Int)=0:=by simp [h5]
   simp only [H28,GW,H3,BH,BD,vv2,vf,reduceCtorEq,reduceAdd,reduceEqDiff,h1,h0,h2,h5',beq_self_eq_true,AO,AK,q1,q2,q3,q4,q5,bne_self_eq_false,le_refl,Jc (x:=⟨s.now,x⟩),map_append,map_cons,map_nil,Out.enc]
  ·have hpos:=length_pos_iff.2 h5;have h6:¬(s.picks.length:Int)=0:=by omega
   have h6':((s.picks.length:Int)==0)=false:=by simpa using h6
   have hm1:=emod_nonneg s.entered h6;have hm2:=emod_lt_of_pos s.entered (show (0:Int)<s.picks.length by omega);have hm:tmod s.entered s.picks.length=s.entered % s.picks.length:=Int.tmod_eq_emod_of_nonneg hc.ent.1;obtain ⟨p,hp⟩:∃p,s.picks[(s.entered % s.picks.length).toNat]? = some p:=⟨_,getElem?_eq_getElem (by omega)⟩
   have hg:s.picks.getD (s.entered % s.picks.length).toNat 0=p:=by rw [getD_eq_getElem?_getD,hp];rfl
   have hpk:=hc.pk p (mem_of_getElem? hp);have hrg:=hc.gc.rng;have k176:=s176 p s.rep.rng hpk hrg;have kf:=key (BL p s.rep.rng) (fun d hd=>GO hrg.1 hd) (GP _ _);have kr:=key [s.rep.rng] kR (by simp);have c1:∀z:Int×List (List Tree),True:=fun _=>trivial;by_cases h7:(BL p s.rep.rng).head? = some s.rep.rng
   ·rw [E2 s x (BL p s.rep.rng) s.dist (by simp only [B7,h0,h5,hg,h7,if_true,if_false,false_eq_true])];obtain ⟨l,hl⟩:∃l,BL p s.rep.rng=s.rep.rng::l:=by
     cases hf:BL p s.rep.rng with
     |nil=>rw [hf] at h7;cases h7
     |cons a l=>rw [hf] at h7;cases h7;exact ⟨l,rfl⟩
    rw [hl] at kf k176 ⊢;refine ((GJ s.dark s.now).and (k176.and kf)).mono fun n h again => ?_;obtain ⟨h1,h2,h3⟩:=h;simp only [map_cons,Bh] at h2 h3;simp only [H28,GW,H3,Du,H9,Du,H8,BH,BD,vv2,vf,reduceCtorEq,reduceAdd,reduceEqDiff,h1,h0,h2,h3,h6,h6',hm,hm1,hp,map_cons,Bh,getElem?_cons_zero,(show (0:Int)<((l.length+1:Nat):Int) by omega),beq_self_eq_true,AO,AK,q1,q2,q3,q4,q5,bne_self_eq_false,le_refl,Jc (x:=⟨s.now,x⟩),map_append,map_nil,Out.enc]
   ·have h8:∀y:Int,((BL p s.rep.rng).map Bh)[0]? = some [tI y]→(y==s.rep.rng)=false:=by
     intro y hy;cases hf:BL p s.rep.rng with
     |nil=>rw [hf] at hy;cases hy
     |cons a l=>
      rw [hf] at hy h7;cases hy;simp at h7;simpa using h7
    have k8:(BL p s.rep.rng).length=0∨∃y,0<(BL p s.rep.rng).length∧((BL p s.rep.rng).map Bh)[0]? = some [tI y]∧(y==s.rep.rng)=false:=by
     cases hf:BL p s.rep.rng with
     |nil=>exact .inl rfl
     |cons a l=>exact .inr ⟨a,by simp,rfl,h8 a (by rw [hf];rfl)⟩
    by_cases h9:0≤s.limit∧s.limit≤s.dist
    ·rw [E2 s x [s.rep.rng] s.dist (by simp only [B7,h0,h5,hg,h7,h9,if_true,if_false,false_eq_true,and_self])];refine ((GJ s.dark s.now).and (k176.and kr)).mono fun n h again => ?_;obtain ⟨h1,h2,h3⟩:=h;simp only [map_cons,map_nil,Bh] at h3;rcases k8 with k8|⟨y,k8,k9,k10⟩
     ·simp only [H28,GW,H3,Du,H9,Du,H8,BH,BD,vv2,vf,reduceCtorEq,reduceAdd,reduceEqDiff,h1,h0,h2,h3,h6,h6',hm,hm1,hp,map_cons,Bh,k8,natCast_zero,lt_irrefl,h9,beq_self_eq_true,AO,AK,q1,q2,q3,q4,q5,bne_self_eq_false,le_refl,Jc (x:=⟨s.now,x⟩),map_append,map_nil,Out.enc]
     ·simp only [H28,GW,H3,Du,H9,Du,H8,BH,BD,vv2,vf,reduceCtorEq,reduceAdd,reduceEqDiff,h1,h0,h2,h3,h6,h6',hm,hm1,hp,map_cons,Bh,(show (0:Int)<((BL p s.rep.rng).length:Int) by omega),k9,k10,h9,beq_self_eq_true,AO,AK,q1,q2,q3,q4,q5,bne_self_eq_false,le_refl,Jc (x:=⟨s.now,x⟩),map_append,map_nil,Out.enc]
    ·rw [E2 s x (BL p s.rep.rng) (s.dist+1) (by simp only [B7,h0,h5,hg,h7,h9,if_true,if_false,false_eq_true,and_self])];refine ((GJ s.dark s.now).and (k176.and kf)).mono fun n h again => ?_;obtain ⟨h1,h2,h3⟩:=h;have h9':(0≤s.limit→¬s.limit≤s.dist):=fun a b=>h9 ⟨a,b⟩;by_cases h10:0≤s.limit
     ·have h11:=h9' h10;rcases k8 with k8|⟨y,k8,k9,k10⟩
      ·simp only [H28,GW,H3,Du,H9,Du,H8,BH,BD,vv2,vf,reduceCtorEq,reduceAdd,reduceEqDiff,h1,h0,h2,h3,h6,h6',hm,hm1,hp,map_cons,Bh,k8,natCast_zero,lt_irrefl,h10,h11,beq_self_eq_true,AO,AK,q1,q2,q3,q4,q5,bne_self_eq_false,le_refl,L4 (x:=⟨s.now,x⟩),map_append,map_nil,Out.enc]
      ·simp only [H28,GW,H3,Du,H9,Du,H8,BH,BD,vv2,vf,reduceCtorEq,reduceAdd,reduceEqDiff,h1,h0,h2,h3,h6,h6',hm,hm1,hp,map_cons,Bh,(show (0:Int)<((BL p s.rep.rng).length:Int) by omega),k9,k10,h10,h11,beq_self_eq_true,AO,AK,q1,q2,q3,q4,q5,bne_self_eq_false,le_refl,L4 (x:=⟨s.now,x⟩),map_append,map_nil,Out.enc]
     ·rcases k8 with k8|⟨y,k8,k9,k10⟩
      ·simp only [H28,GW,H3,Du,H9,Du,H8,BH,BD,vv2,vf,reduceCtorEq,reduceAdd,reduceEqDiff,h1,h0,h2,h3,h6,h6',hm,hm1,hp,map_cons,Bh,k8,natCast_zero,lt_irrefl,h10,beq_self_eq_true,AO,AK,q1,q2,q3,q4,q5,bne_self_eq_false,le_refl,L4 (x:=⟨s.now,x⟩),map_append,map_nil,Out.enc]
      ·simp only [H28,GW,H3,Du,H9,Du,H8,BH,BD,vv2,vf,reduceCtorEq,reduceAdd,reduceEqDiff,h1,h0,h2,h3,h6,h6',hm,hm1,hp,map_cons,Bh,(show (0:Int)<((BL p s.rep.rng).length:Int) by omega),k9,k10,h10,beq_self_eq_true,AO,AK,q1,q2,q3,q4,q5,bne_self_eq_false,le_refl,L4 (x:=⟨s.now,x⟩),map_append,map_nil,Out.enc]
end Ab
set_option linter.unusedVariables false
set_option linter.unusedSimpArgs false
set_option maxRecDepth 100000
namespace Ab
open Go
theorem nx2_28 (n:Nat) (again:List AV×Heap→Option (List Tree)) (g:Gh) (s:Ses) (e:List AV) (o:Option Int) :
  ZL n (fI C n) again (e,H28 E0 E0 E0 g s (boO o))=again (CP o,H28 E0 E0 E0 g s []):=by
 cases o<;>simp only [ZL,boO,CP,H28,BD,vv2,vf,reduceCtorEq,reduceAdd,reduceEqDiff,getD_none,Option.getD_some,isSome_none,isSome_some]
theorem nx3_28 (n:Nat) (again:List AV×Heap→Option (List Tree)) (g:Gh) (s:Ses) (e:List AV) (o:Option Int) (tl:Heap) (w:Bool) :
  N5 n (fI C n) (e,H28 E0 E0 E0 g s tl) again ([.t (.bool w)],H28 E0 E0 E0 g s (boO o))=again (CP (CH o (if w=true then some s.snd.due else none)),H28 E0 E0 E0 g s []):=by
 have k:=nx2_28 n again g s [];cases w
 ·cases o with
  |none=>
   have k:=k none;simp only [boO,getD_none,isSome_none,H28] at k;simp only [N5,boO,H28,BD,vv2,vf,reduceCtorEq,reduceAdd,reduceEqDiff,getD_none,Option.getD_some,isSome_none,isSome_some,AO,k,CH]
  |some a=>
   have k:=k (some a);simp only [boO,Option.getD_some,isSome_some,H28] at k;simp only [N5,boO,H28,BD,vv2,vf,reduceCtorEq,reduceAdd,reduceEqDiff,getD_none,Option.getD_some,isSome_none,isSome_some,AO,k,CH]
 ·cases o with
  |none=>
   have k:=k (some s.snd.due);simp only [boO,Option.getD_some,isSome_some,H28] at k;simp only [N5,boO,H28,BD,vv2,vf,reduceCtorEq,reduceAdd,reduceEqDiff,getD_none,Option.getD_some,isSome_none,isSome_some,AO,k,CH]
  |some a=>
   by_cases hq:s.snd.due<a
   ·have k:=k (some s.snd.due);simp only [boO,Option.getD_some,isSome_some,H28] at k;simp only [N5,boO,H28,BD,vv2,vf,reduceCtorEq,reduceAdd,reduceEqDiff,getD_none,Option.getD_some,isSome_none,isSome_some,AO,k,CH,hq]
   ·have k:=k (some a);simp only [boO,Option.getD_some,isSome_some,H28] at k;simp only [N5,boO,H28,BD,vv2,vf,reduceCtorEq,reduceAdd,reduceEqDiff,getD_none,Option.getD_some,isSome_none,isSome_some,AO,k,CH,hq]
theorem nx4_28 (n:Nat) (again:List AV×Heap→Option (List Tree)) (g:Gh) (s:Ses) (e:List AV) (o:Option Int) (he:s.entered<10000) :
  Vo n (fI C n) again (e,H28 E0 E0 E0 g s (boO o))=again (CP (CH o (if s.snd.st=1 then some s.snd.due else none)),H28 E0 E0 E0 g s []):=by
 have q:¬(10000:Int)≤s.entered:=by omega
 have k:=nx3_28 n again g s e o (boO o);by_cases h:s.snd.st=1
 ·have k:=k true;simp only [boO,H28] at k;simp only [Vo,boO,H28,BD,vv2,vf,reduceCtorEq,reduceAdd,reduceEqDiff,h,beq_self_eq_true,q,k]
 ·have k:=k false;have h':(s.snd.st==1)=false:=by simpa using h
  simp only [boO,H28] at k;simp only [Vo,boO,H28,BD,vv2,vf,reduceCtorEq,reduceAdd,reduceEqDiff,h,h',k]
theorem nx5_28 (g:Gh) (s:Ses) (e:List AV) (o:Option Int) (he:s.entered<10000) (hr:Bz s.rep) :
  Ev fun n=>∀again,PW n (fI C n) again (e,H28 E0 E0 E0 g s (boO o))=again (CP (CH (CH o (Ay s.rep)) (if s.snd.st=1 then some s.snd.due else none)),H28 E0 E0 E0 g s []):=by
 refine (Dk s.rep hr).mono fun n h again => ?_;have k:=fun o=>nx4_28 n again g s [] o he;simp only [BY.enc] at h;cases hn:Ay s.rep with
 |none=>
  have k:=k o;rw [hn] at h;simp only [DH] at h;simp only [boO,H28] at k;simp only [PW,boO,H28,BD,vv2,vf,reduceCtorEq,reduceAdd,reduceEqDiff,h,k];cases o<;>rfl
 |some a=>
  rw [hn] at h;simp only [DH] at h;cases o with
  |none=>
   have k:=k (some a);simp only [boO,H28,Option.getD_some,isSome_some] at k;simp only [PW,boO,H28,BD,vv2,vf,reduceCtorEq,reduceAdd,reduceEqDiff,getD_none,isSome_none,h,k,CH]
  |some b=>
   by_cases hq:a<b
   ·have k:=k (some a);simp only [boO,H28,Option.getD_some,isSome_some] at k;simp only [PW,boO,H28,BD,vv2,vf,reduceCtorEq,reduceAdd,reduceEqDiff,Option.getD_some,isSome_some,h,k,CH,hq]
   ·have k:=k (some b);simp only [boO,H28,Option.getD_some,isSome_some] at k;simp only [PW,boO,H28,BD,vv2,vf,reduceCtorEq,reduceAdd,reduceEqDiff,Option.getD_some,isSome_some,h,k,CH,hq]
theorem nx6_28 (g:Gh) (s:Ses) (e:List AV) (o:Option Int) (he:s.entered<10000) (hd:Bz s.dat) (hr:Bz s.rep) :
  Ev fun n=>∀again,PV n (fI C n) again (e,H28 E0 E0 E0 g s (boO o))=again (CP (CH (CH (CH o (Ay s.dat)) (Ay s.rep)) (if s.snd.st=1 then some s.snd.due else none)),H28 E0 E0 E0 g s []):=by
 have key:=fun o=>nx5_28 g s [] o he hr;cases hn:Ay s.dat with
 |none=>
  refine ((Dk s.dat hd).and (key o)).mono fun n h again => ?_;obtain ⟨h,k⟩:=h;have k:=k again;simp only [BY.enc,hn,DH] at h;simp only [boO,H28] at k;simp only [PV,boO,H28,BD,vv2,vf,reduceCtorEq,reduceAdd,reduceEqDiff,h,k];cases o<;>rfl
 |some a=>
  cases o with
  |none=>
   refine ((Dk s.dat hd).and (key (some a))).mono fun n h again => ?_;obtain ⟨h,k⟩:=h;have k:=k again;simp only [BY.enc,hn,DH] at h;simp only [boO,H28,Option.getD_some,isSome_some] at k;simp only [PV,boO,H28,BD,vv2,vf,reduceCtorEq,reduceAdd,reduceEqDiff,getD_none,isSome_none,h,k,CH]
  |some b=>
   by_cases hq:a<b
   ·refine ((Dk s.dat hd).and (key (some a))).mono fun n h again => ?_;obtain ⟨h,k⟩:=h;have k:=k again;simp only [BY.enc,hn,DH] at h;simp only [boO,H28,Option.getD_some,isSome_some] at k;simp only [PV,boO,H28,BD,vv2,vf,reduceCtorEq,reduceAdd,reduceEqDiff,Option.getD_some,isSome_some,h,k,CH,hq]
   ·refine ((Dk s.dat hd).and (key (some b))).mono fun n h again => ?_;obtain ⟨h,k⟩:=h;have k:=k again;simp only [BY.enc,hn,DH] at h;simp only [boO,H28,Option.getD_some,isSome_some] at k;simp only [PV,boO,H28,BD,vv2,vf,reduceCtorEq,reduceAdd,reduceEqDiff,Option.getD_some,isSome_some,h,k,CH,hq]
theorem nx_28 (g:Gh) (s:Ses) (f1 f2 f3:AF) (he:s.entered<10000) (hd:Bz s.dat) (hr:Bz s.rep) :
  Ev fun n=>∀again,Vv n (fI C n) again ([.ptr 6 0],H28 f1 f2 f3 g s [])=again (CP (nxS s),H28 E0 E0 E0 g s []):=by
 have q:¬(10000:Int)≤s.entered:=by omega
 have key:=nx6_28 g s [] (s.pend.head?.map (·.at_)) he hd hr;refine key.mono fun n k again => ?_;have k:=k again;have e1:∀(o:Out) (l:List Out),s.pend=o::l→(g.pre++List.map Out.enc s.pend)[g.pre.length]? = some o.enc:=by intro o l h;rw [getElem?_append_right (le_refl _),h];simp
 unfold nxS;cases hp:s.pend with
 |nil=>
  simp only [hp,head?_nil,map_none,boO,H28,getD_none,isSome_none,map_nil] at k;simp only [XP,Vh,ZH,H28,hp,map_nil,BD,vv2,vf,reduceCtorEq,reduceAdd,reduceEqDiff,q,lt_irrefl,natCast_zero,k,head?_nil,map_none]
 |cons o l=>
  have e1:=e1 o l hp;simp only [hp] at e1;simp only [hp,head?_cons,map_some,boO,H28,Option.getD_some,isSome_some] at k;simp only [XP,Vh,ZH,J28_1,H28,hp,BD,vv2,vf,reduceCtorEq,reduceAdd,reduceEqDiff,q,(show (0:Int)<((l.length+1:Nat):Int) by omega),e1,Out.enc,k,head?_cons,map_some,Int.le_refl]
end Ab
set_option linter.unusedVariables false
set_option linter.unusedSimpArgs false
set_option maxRecDepth 100000
namespace Ab
open Go
theorem ex_28 (g:Gh) (s:Ses) (f1 f2 f3:AF) (he:s.entered<10000) (ha:s.snd.acked.length≤100) (hl:s.pend.length≤1000000)
  (hw:s.snd.st=1→s.snd.due=s.now→(Co s.snd s.now).2.2=0∧(Co s.snd s.now).2.1.length≤1000000) :
  Ev fun n=>∀again,Zd n (fI C n) again ([.ptr 6 0],H28 f1 f2 f3 g s [])=again ([],H28 E0 E0 E0 (exG g s) (exS s) []):=by
 have q:¬(10000:Int)≤s.entered:=by omega
 by_cases h1:s.snd.st=1
 ·by_cases h2:s.snd.due=s.now
  ·obtain ⟨w1,w2⟩:=hw h1 h2;have e1:exS s={s with snd:=(Co s.snd s.now).1,pend:=s.pend++(Co s.snd s.now).2.1}:=by simp only [exS,h1,h2,and_self,if_true]
   have e2:exG g s={g with v0:=g.v0+1,pre:=[]}:=by simp only [exG,h1,h2,and_self,if_true]
   rw [e1,e2];refine (s149 s.snd s.now ha).mono fun n h again => ?_;simp only [Dm,w1,Snd.enc,cons_append,nil_append,h1,h2] at h;generalize Co s.snd s.now=w at h w1 w2 ⊢;obtain ⟨a,o,e⟩:=w;simp only at h w1 w2 ⊢;have q2:¬g.pre.length+s.pend.length<g.pre.length+s.pend.length:=by omega
   have q3:s.pend.length+o.length≤1073741824:=by omega
   have q4:take s.pend.length (List.map Out.enc s.pend)=List.map Out.enc s.pend:=take_of_length_le (by simp);simp only [Sx,Sj,Vn,Vm,H28,BD,vv2,vf,reduceCtorEq,reduceAdd,reduceEqDiff,h1,h2,h,q,beq_self_eq_true,bne_self_eq_false,length_append,q2,q3,q4,Ja,drop_left,map_append,le_refl,nil_append]
  ·have h2':(s.snd.due != s.now)=true:=by simpa using h2
   have e1:exS s=s:=by simp only [exS,h2,and_false,if_false]
   have e2:exG g s=g:=by simp only [exG,h2,and_false,if_false]
   rw [e1,e2];refine Ev.of fun n again => ?_;simp only [Sx,Sj,Vn,Vm,H28,BD,vv2,vf,reduceCtorEq,reduceAdd,reduceEqDiff,h1,h2',q,beq_self_eq_true]
 ·have h1':(s.snd.st==1)=false:=by simpa using h1
  have e1:exS s=s:=by simp only [exS,h1,false_and,if_false]
  have e2:exG g s=g:=by simp only [exG,h1,false_and,if_false]
  rw [e1,e2];refine Ev.of fun n again => ?_;simp only [Sx,Sj,Vn,Vm,H28,BD,vv2,vf,reduceCtorEq,reduceAdd,reduceEqDiff,h1']
def Kc (q:Gh×Ses):Rd (Gh×Ses) (Gh×Ses):=
 match q.2.pend with
 |[]=>.done q
 |o::l=>if o.at_=q.2.now then .next ({q.1 with v4:=q.1.v4+1,pre:=q.1.pre++[o.enc]},{Cs q.2 o.seg with pend:=l}) else .done q
theorem tx_28 (g:Gh) (s:Ses) (f1 f2 f3:AF) (hb:Bud s.pend.length s) :
  Ev fun n=>∀again,ZY n (fI C n) again ([.ptr 6 0],H28 f1 f2 f3 g s [])=again ([],H28 E0 E0 E0 (txT s.pend.length (g,s)).1 (txS s.pend.length s) []):=by
 have key:=CF (R:=List Tree) (Z:=List AV×Heap→Option (List Tree)) (Q:=Gh×Ses)
  (B:=fun n z p again=>N1 n (fI C n) ([.ptr 6 0],H28 f1 f2 f3 g s []) z p again)
  (s:=(([],H28 E0 E0 E0 g s []):List AV×Heap)) (r:=txT s.pend.length (g,s))
  (fun z q=>z ([],H28 E0 E0 E0 q.1 q.2 [])) (fun q:Gh×Ses=>(([],H28 E0 E0 E0 q.1 q.2 []):List AV×Heap)) Kc (fun q=>Bud q.2.pend.length q.2) (fun q=>q.2.pend.length) (fun q=>txT q.2.pend.length q) (g,s) rfl hb rfl
  (fun q hI => ?_) (fun q q' hI hs => ?_) (fun q hI => ?_)
 ·refine key.mono fun n h again => ?_;have h:=h again;rw [Ph] at h;simp only [H28] at h;simp only [tC28_7,Y4,H28,BD,h]
 ·obtain ⟨g1,s1⟩:=q;simp only at hI ⊢;have e1:∀(o:Out) (l:List Out),s1.pend=o::l→(g1.pre++List.map Out.enc s1.pend)[g1.pre.length]? = some o.enc:=by intro o l h;rw [getElem?_append_right (le_refl _),h];simp
  cases hp:s1.pend with
  |nil=>
   refine Ev.of fun n z again => ?_;simp only [Kc,N1,Qi,H28,hp,BD,vv2,vf,reduceCtorEq,reduceAdd,reduceEqDiff,natCast_zero,lt_irrefl,Rd.Az,map_nil]
  |cons o l=>
   have e1:=e1 o l hp;by_cases ho:o.at_=s1.now
   ·rw [hp] at hI;have k:=entD_28 g1 s1 o.seg (.row true (AF.ver f1) 15 (Aq f1)) (.row true (AF.ver f2) 4 (Aq f2)) (.row true (AF.ver f3) 4 (Aq f3)) (Bud.eD hI);refine k.mono fun n h z again => ?_;simp only [BH,H28] at h;have h2:=fun again=>h again;have ep:(Cs s1 o.seg).pend=o::l:=hp;have q1:(1:Int)≤((l.length+1:Nat):Int):=by omega
    have q2:=ucP_28 {g1 with v4:=g1.v4+1} (Cs s1 o.seg) o l ep;rw [ep] at q2;simp only [length_cons,Nat.add_sub_cancel] at q2;have e2:(g1.pre++List.map Out.enc (o::l))[g1.pre.length]? = some [tI s1.now,tI o.seg.kind,tI o.seg.ses,tI o.seg.ser,tI o.seg.off,tI o.seg.tot,.bool o.seg.chk,.str o.seg.data,.sl 2 (o.seg.AS.map Span.enc)]:=by rw [hp] at e1;rw [e1,← ho];rfl
    simp only [ep,hp] at h2;simp only [Kc,N1,Qi,ZK,H28,hp,ep,ho,BD,vv2,vf,reduceCtorEq,reduceAdd,reduceEqDiff,(show (0:Int)<((l.length+1:Nat):Int) by omega),Int.le_refl,e2,beq_self_eq_true,Rd.Ai,h2,q1,Nat.add_sub_cancel,q2,(show (0:Int)≤1 by omega)];simp only [map_cons,append_assoc,cons_append,nil_append]
   ·have ho':(o.at_==s1.now)=false:=by simpa using ho
    refine Ev.of fun n z again => ?_;have e2:(g1.pre++List.map Out.enc (o::l))[g1.pre.length]? = some [tI o.at_,tI o.seg.kind,tI o.seg.ses,tI o.seg.ser,tI o.seg.off,tI o.seg.tot,.bool o.seg.chk,.str o.seg.data,.sl 2 (o.seg.AS.map Span.enc)]:=by rw [hp] at e1;rw [e1];rfl
    simp only [Kc,N1,Qi,H28,hp,ho,ho',BD,vv2,vf,reduceCtorEq,reduceAdd,reduceEqDiff,(show (0:Int)<((l.length+1:Nat):Int) by omega),Int.le_refl,e2,Rd.Az]
 ·obtain ⟨g1,s1⟩:=q;unfold Kc at hs;simp only at hI hs ⊢;cases hp:s1.pend with
  |nil=>rw [hp] at hs;cases hs
  |cons o l=>
   rw [hp] at hs hI;simp only at hs;split at hs
   ·cases hs;refine ⟨?_,by simp⟩;exact (Bud.Cs hI o.seg).of rfl rfl rfl rfl rfl rfl rfl rfl
   ·cases hs
 ·obtain ⟨g1,s1⟩:=q;unfold Kc;simp only;cases hp:s1.pend with
  |nil=>simp [txT,Rd.fin]
  |cons o l=>
   simp only [length_cons,txT,hp];split
   ·rfl
   ·simp [Rd.fin,txT,hp, *]
end Ab
set_option linter.unusedVariables false
set_option linter.unusedSimpArgs false
set_option maxRecDepth 100000
namespace Ab
open Go
def BB (g:Gh) (s:Ses) (v:Nat) (o:Option Seg):List AV×Heap:=([.rptr 7 v 0 0,.t (.bool o.isSome)],H28 E0 E0 E0 g s [.row false v 8 [(o.getD EX).enc]])
theorem XL (g:Gh) (s:Ses) (v:Nat) (y:Seg) (hr:Bz s.rep) :
  Ev fun n=>∀again e1 hp,N7 n (fI C n) ((.rptr 7 v 0 0::e1),hp) again ([],H28 E0 E0 E0 g s [.row false v 8 [y.enc]])=again (BB g (Bs s).1 (v+1) (Bs s).2):=by
 cases hf:s.rep.frames with
 |nil=>
  have hn:Ay s.rep=none:=by simp [Ay,hf]
  rw [show Bs s=(s,none) by simp only [Bs,hf]];refine (Dk s.rep hr).mono fun n h again e1 hp => ?_;rw [hn] at h;simp only [BY.enc,DH] at h;simp only [BB,N7,Qm,H28,BD,vv2,vf,reduceCtorEq,reduceAdd,reduceEqDiff,getElem?_cons_zero,Seg.enc,h,isSome_none,getD_none,EX,map_nil,set_cons_zero,drop_succ_cons,drop_nil,append_nil,le_refl]
 |cons f l=>
  have hn:Ay s.rep=some f.arr:=by simp [Ay,hf]
  by_cases ha:f.arr=s.now
  ·rw [show Bs s=(BT s,some f.seg) by simp only [Bs,hf,ha,if_true]];refine ((Dk s.rep hr).and (RE s.rep hr f l hf)).mono fun n h again e1 hp => ?_;obtain ⟨h,h2⟩:=h;rw [hn,ha] at h;simp only [BY.enc,DH] at h h2;have hx:BT s={s with rep:=⟨s.rep.rng,l,s.rep.sent,s.rep.lost⟩}:=by simp only [BT,hf,tail_cons]
   simp only [hx,BB,N7,Qm,H28,BD,vv2,vf,reduceCtorEq,reduceAdd,reduceEqDiff,getElem?_cons_zero,Seg.enc,h,h2,bne_self_eq_false,isSome_some,Option.getD_some,set_cons_zero,drop_succ_cons,drop_nil,append_nil,le_refl]
  ·have ha':(f.arr != s.now)=true:=by simpa using ha
   rw [show Bs s=(s,none) by simp only [Bs,hf,ha,if_false]];refine (Dk s.rep hr).mono fun n h again e1 hp => ?_;rw [hn] at h;simp only [BY.enc,DH] at h;simp only [ha',BB,N7,Qm,H28,BD,vv2,vf,reduceCtorEq,reduceAdd,reduceEqDiff,getElem?_cons_zero,Seg.enc,h,isSome_none,getD_none,EX,map_nil,set_cons_zero,drop_succ_cons,drop_nil,append_nil,le_refl]
theorem hr_28 (g:Gh) (s:Ses) (v:Nat) (x:Seg) (hr:Bz s.rep) (ha:s.snd.acked.length≤100∧s.pend.length≤1000000) (hx:x.AS.length≤100∨1000<x.AS.length)
  (hw:¬s.now<s.snd.busy→(BU s.snd s.now x).2.2=0∧(BU s.snd s.now x).2.1.length≤1000000) :
  Ev fun n=>∀z again,FO n (fI C n) z (BB g s v (some x)) again=again (BB (lsG g s) (Bs (lsX s x)).1 (v+1) (Bs (lsX s x)).2):=by
 by_cases hb:s.now<s.snd.busy
 ·have e1:lsX s x=s:=by simp only [lsX,hb,if_true]
  have e2:lsG g s=g:=by simp only [lsG,hb,if_true]
  rw [e1,e2];refine (XL g s v x hr).mono fun n h z again => ?_;simp only [H28] at h;have hb':decide (s.now<s.snd.busy)=true:=decide_eq_true hb;simp only [BB,H28,isSome_some,Option.getD_some] at h ⊢;simp only [FO,H28,BD,vv2,vf,reduceCtorEq,reduceAdd,reduceEqDiff,hb,Fx,E9,h]
 ·obtain ⟨w1,w2⟩:=hw hb;have e2:lsG g s=gP g:=by simp only [lsG,hb,if_false]
  have hx2:lsX s x=lsF {s with snd:=(BU s.snd s.now x).1,pend:=s.pend++(BU s.snd s.now x).2.1}:=by simp only [lsX,hb,if_false]
  rw [e2];have key:=fun s' (hs:s'.rep=s.rep)=>XL (gP g) s' v x (by rw [hs];exact hr);have q2:¬g.pre.length+s.pend.length<g.pre.length+s.pend.length:=by omega
  have q4:take s.pend.length (List.map Out.enc s.pend)=List.map Out.enc s.pend:=take_of_length_le (by simp);have h148:=s148 s.snd s.now x ha.1 hx;simp only [Dm,w1,Snd.enc,Seg.enc,cons_append,nil_append] at h148;rw [hx2];generalize BU s.snd s.now x=w at h148 w1 w2 ⊢;obtain ⟨a,o,e⟩:=w;simp only at h148 w1 w2 ⊢;have q3:s.pend.length+o.length≤1073741824:=by omega
  by_cases hk:s.kno=false∧a.st=2
  ·have e3:lsF {s with snd:=a,pend:=s.pend++o}={s with snd:=a,pend:=s.pend++o,kno:=true,knoAt:=s.now}:=by simp only [lsF,hk,and_self,if_true]
   rw [e3];refine (h148.and (key {s with snd:=a,pend:=s.pend++o,kno:=true,knoAt:=s.now} rfl)).mono fun n h z again => ?_;obtain ⟨h,h2⟩:=h;simp only [H28,gP,map_append,nil_append] at h2;have hk1:(!s.kno)=true:=by simp [hk.1]
   have hk2:(a.st==2)=true:=by simp [hk.2]
   simp only [BB,H28,isSome_some,Option.getD_some,gP,map_append,nil_append];simp only [BB,H28,isSome_some,Option.getD_some,gP,map_append,nil_append,Seg.enc] at h2;simp only [FO,H28,BD,vv2,vf,reduceCtorEq,reduceAdd,reduceEqDiff,hb,hk1,hk2,Seg.enc,getElem?_cons_zero,h,bne_self_eq_false,beq_self_eq_true,length_append,q2,q3,q4,drop_left,le_refl,MP,h2]
  ·have e3:lsF {s with snd:=a,pend:=s.pend++o}={s with snd:=a,pend:=s.pend++o}:=by simp only [lsF,hk,if_false]
   rw [e3];refine (h148.and (key {s with snd:=a,pend:=s.pend++o} rfl)).mono fun n h z again => ?_;obtain ⟨h,h2⟩:=h;simp only [H28,gP,map_append,nil_append] at h2;simp only [BB,H28,isSome_some,Option.getD_some,gP,map_append,nil_append];simp only [BB,H28,isSome_some,Option.getD_some,gP,map_append,nil_append,Seg.enc] at h2;rcases eq_false_or_eq_true s.kno with hk0|hk0
   ·have hk1:(!s.kno)=false:=by simp [hk0]
    simp only [FO,H28,BD,vv2,vf,reduceCtorEq,reduceAdd,reduceEqDiff,hb,hk1,Seg.enc,getElem?_cons_zero,h,bne_self_eq_false,beq_self_eq_true,length_append,q2,q3,q4,drop_left,le_refl,Ja,h2]
   ·have hk1:(!s.kno)=true:=by simp [hk0]
    have hk2:(a.st==2)=false:=by simpa using fun h=>hk ⟨hk0,h⟩
    simp only [FO,H28,BD,vv2,vf,reduceCtorEq,reduceAdd,reduceEqDiff,hb,hk1,hk2,Seg.enc,getElem?_cons_zero,h,bne_self_eq_false,beq_self_eq_true,length_append,q2,q3,q4,drop_left,le_refl,Ja,h2]
theorem l16_28:FO=FO:=rfl
theorem lp_28 {P:Ses→Prop} (hP:LsP P) (q:LS) (h:q.inv P) :
  Ev fun n=>∀z,AJ (fun p again=>FO n (fI C n) z p again) n (BB q.g q.s q.v q.o)=z ([],H28 E0 E0 E0 q.res.1 q.res.2 []):=by
 refine CF (R:=List Tree) (Z:=List AV×Heap→Option (List Tree)) (Q:=Gh×Ses) (B:=fun n z p again=>FO n (fI C n) z p again) (r:=q.res)
  (fun z r=>z ([],H28 E0 E0 E0 r.1 r.2 [])) (fun q:LS=>BB q.g q.s q.v q.o) LS.step (LS.inv P) (fun q=>q.s.rep.frames.length+(if q.o.isSome then 1 else 0)) LS.res q rfl h rfl
  (fun q hI => ?_) (fun q q' hI hs=>LS.sound hP q q' hI hs) (fun q hI=>LS.fin hP q hI)
 obtain ⟨g,s,v,o⟩:=q;cases o with
 |none=>
  refine Ev.of fun n z again => ?_;simp only [BB,isSome_none,FO,H28,BD,vv2,vf,reduceCtorEq,reduceAdd,reduceEqDiff,LS.step,Rd.Az]
 |some x=>
  obtain ⟨h1,h2,h3,h4,h5⟩:=hI;refine (hr_28 g s v x h1 h2 h3 h4).mono fun n h z again => ?_;simp only [LS.step,Rd.Ai];exact h z again
theorem ls_28 {P:Ses→Prop} (hP:LsP P) (g:Gh) (s:Ses) (f1 f2 f3:AF) (h:P s) :
  Ev fun n=>∀again,Zc n (fI C n) again ([.ptr 6 0],H28 f1 f2 f3 g s [])=again ([],H28 E0 E0 E0 (lsT s.rep.frames.length (g,s)).1 (lsS s.rep.frames.length s) []):=by
 have hr:=hP.rep s h;obtain ⟨i1,i2⟩:=LS.take hP h g 0;have key:=lp_28 hP _ i1;rw [i2,QD] at key;simp only at key;cases hf:s.rep.frames with
 |nil=>
  have hn:Ay s.rep=none:=by simp [Ay,hf]
  have e:Bs s=(s,none):=by simp only [Bs,hf]
  rw [e] at key;rw [hf] at key;refine ((Dk s.rep hr).and key).mono fun n h again => ?_;obtain ⟨h,k⟩:=h;rw [hn] at h;simp only [BY.enc,DH] at h;have k:=k again;simp only [BB,H28,isSome_none,getD_none,EX,Seg.enc,map_nil] at k;simp only [Sw,Si,Ql,H28,BD,vv2,vf,reduceCtorEq,reduceAdd,reduceEqDiff,h,k]
 |cons f l=>
  have hn:Ay s.rep=some f.arr:=by simp [Ay,hf]
  by_cases ha:f.arr=s.now
  ·have e:Bs s=(BT s,some f.seg):=by simp only [Bs,hf,ha,if_true]
   rw [e] at key;rw [hf] at key;refine ((Dk s.rep hr).and ((RE s.rep hr f l hf).and key)).mono fun n h again => ?_;obtain ⟨h,h2,k⟩:=h;rw [hn,ha] at h;simp only [BY.enc,DH] at h h2;have hx:BT s={s with rep:=⟨s.rep.rng,l,s.rep.sent,s.rep.lost⟩}:=by simp only [BT,hf,tail_cons]
   have k:=k again;simp only [BB,H28,isSome_some,Option.getD_some,Seg.enc,hx] at k;simp only [Sw,Si,Ql,l16_28,H28,BD,vv2,vf,reduceCtorEq,reduceAdd,reduceEqDiff,h,h2,bne_self_eq_false,k]
  ·have ha':(f.arr != s.now)=true:=by simpa using ha
   have e:Bs s=(s,none):=by simp only [Bs,hf,ha,if_false]
   rw [e] at key;rw [hf] at key;refine ((Dk s.rep hr).and key).mono fun n h again => ?_;obtain ⟨h,k⟩:=h;rw [hn] at h;simp only [BY.enc,DH] at h;have k:=k again;simp only [BB,H28,isSome_none,getD_none,EX,Seg.enc,map_nil] at k;simp only [Sw,Si,Ql,H28,BD,vv2,vf,reduceCtorEq,reduceAdd,reduceEqDiff,h,ha',k]
end Ab
set_option linter.unusedVariables false
set_option linter.unusedSimpArgs false
set_option maxRecDepth 100000
namespace Ab
open Go
theorem tkD_28 (g:Gh) (s:Ses) (v:Nat) (y:Seg) (hr:Bz s.dat) :
  Ev fun n=>∀again e1 hp,N6 n (fI C n) ((.rptr 7 v 0 0::e1),hp) again ([],H28 E0 E0 E0 g s [.row false v 8 [y.enc]])=again (BB g (Bt s).1 (v+1) (Bt s).2):=by
 cases hf:s.dat.frames with
 |nil=>
  have hn:Ay s.dat=none:=by simp [Ay,hf]
  rw [show Bt s=(s,none) by simp only [Bt,hf]];refine (Dk s.dat hr).mono fun n h again e1 hp => ?_;rw [hn] at h;simp only [BY.enc,DH] at h;simp only [BB,N6,Qk,H28,BD,vv2,vf,reduceCtorEq,reduceAdd,reduceEqDiff,getElem?_cons_zero,Seg.enc,h,isSome_none,getD_none,EX,map_nil,set_cons_zero,drop_succ_cons,drop_nil,append_nil,le_refl]
 |cons f l=>
  have hn:Ay s.dat=some f.arr:=by simp [Ay,hf]
  by_cases ha:f.arr=s.now
  ·rw [show Bt s=(BF s,some f.seg) by simp only [Bt,hf,ha,if_true]];refine ((Dk s.dat hr).and (RE s.dat hr f l hf)).mono fun n h again e1 hp => ?_;obtain ⟨h,h2⟩:=h;rw [hn,ha] at h;simp only [BY.enc,DH] at h h2;have hx:BF s={s with dat:=⟨s.dat.rng,l,s.dat.sent,s.dat.lost⟩}:=by simp only [BF,hf,tail_cons]
   simp only [hx,BB,N6,Qk,H28,BD,vv2,vf,reduceCtorEq,reduceAdd,reduceEqDiff,getElem?_cons_zero,Seg.enc,h,h2,bne_self_eq_false,isSome_some,Option.getD_some,set_cons_zero,drop_succ_cons,drop_nil,append_nil,le_refl]
  ·have ha':(f.arr != s.now)=true:=by simpa using ha
   rw [show Bt s=(s,none) by simp only [Bt,hf,ha,if_false]];refine (Dk s.dat hr).mono fun n h again e1 hp => ?_;rw [hn] at h;simp only [BY.enc,DH] at h;simp only [ha',BB,N6,Qk,H28,BD,vv2,vf,reduceCtorEq,reduceAdd,reduceEqDiff,getElem?_cons_zero,Seg.enc,h,isSome_none,getD_none,EX,map_nil,set_cons_zero,drop_succ_cons,drop_nil,append_nil,le_refl]
theorem rp_28 (g:Gh) (s:Ses) (v:Nat) (x:Seg) (r:Rcv) (l:List Seg) (y:List Tree) (hy:gL y 4=l.map Seg.enc) (f1 f2 f3:AF) (e00:List AV) (g00:Gh) (s00:Ses) (hb:Bud l.length s) :
  Ev fun n=>∀z,AJ (fun p again=>JP n (fI C n) y (e00,H28 f1 f2 f3 g00 s00 []) z p again) n ([.t (tI 0)],H28 E0 E0 E0 g s [.row false v 8 [x.enc],Is r])=z ([],H28 E0 E0 E0 {g with v5:=g.v5+l.length} (rxF (l.foldl Cv s)) [.row false v 8 [x.enc]]):=by
 have key:=Eg (R:=List Tree) (Z:=List AV×Heap→Option (List Tree)) (Q:=Gh×Ses) (B:=fun n z p again=>JP n (fI C n) y (e00,H28 f1 f2 f3 g00 s00 []) z p again)
  (s:=(([.t (tI 0)],H28 E0 E0 E0 g s [.row false v 8 [x.enc],Is r]):List AV×Heap)) (r:=({g with v5:=g.v5+l.length},l.foldl Cv s)) l
  (fun i (q:Gh×Ses)=>(([.t (tI i)],H28 E0 E0 E0 q.1 q.2 [.row false v 8 [x.enc],Is r]):List AV×Heap)) (fun _ q y =>.next ({q.1 with v5:=q.1.v5+1},Cv q.2 y)) (fun q=>q)
  (fun z q=>z ([],H28 E0 E0 E0 q.1 (rxF q.2) [.row false v 8 [x.enc]])) (fun i q=>Bud (l.length-i) q.2) (g,s) rfl hb ?_
  (fun i q w hx hI => ?_) (fun i q w q' hx hI hs => ?_) (fun q hI => ?_)
 ·exact key
 ·rw [Fb,Td]
 ·have hi:=AZ hx;obtain ⟨g1,s1⟩:=q;have hI':Bud (l.length-(i+1)+1) s1:=by
   have:l.length-(i+1)+1=l.length-i:=by omega
   rw [this];exact hI
  have k:=entR_28 g1 s1 w (.row true (AF.ver f1) 15 (Aq f1)) (.row true (AF.ver f2) 4 (Aq f2)) (.row true (AF.ver f3) 4 (Aq f3)) hI'.eR v [x.enc] r.ses r.tot (r.known.map Span.enc) r.data w;refine k.mono fun n h z again => ?_;have h:=fun again=>h again;simp only [BH,H28] at h;simp only [JP,T8,Is,H28,hy,BD,vv2,vf,reduceCtorEq,reduceAdd,reduceEqDiff,hx,Seg.enc,(show (i:Int)<(l.length:Int) by omega),Aw (show i<4611686018427387904 by have:=hb.ent;omega),Rd.Ai,Fx,E9];simp only [Seg.enc] at h;simp only [h,T8,BD,vv2,vf,reduceCtorEq,reduceAdd,reduceEqDiff,Aw (show i<4611686018427387904 by have:=hb.ent;omega)]
 ·cases hs;have hi:=AZ hx;have:l.length-i=l.length-(i+1)+1:=by omega
  rw [this] at hI;exact hI.Cv w
 ·obtain ⟨g1,s1⟩:=q;rcases eq_false_or_eq_true s1.rcvd with hr|hr
  ·have hr1:(!s1.rcvd)=false:=by simp [hr]
   have e:rxF s1=s1:=by simp only [rxF,hr,Bool.true_eq_false,false_and,if_false]
   rw [e];refine Ev.of fun n z again => ?_;simp only [JP,Is,H28,hy,BD,vv2,vf,reduceCtorEq,reduceAdd,reduceEqDiff,lt_irrefl,hr1]
  ·have hr1:(!s1.rcvd)=true:=by simp [hr]
   refine (s147 s1.rcv).mono fun n h z again => ?_;simp only [Rcv.enc] at h;rcases eq_false_or_eq_true (A7 s1.rcv) with hc|hc
   ·have e:rxF s1={s1 with rcvd:=true,arrive:=s1.now}:=by simp only [rxF,hr,hc,and_self,if_true]
    rw [e];simp only [JP,Is,H28,hy,BD,vv2,vf,reduceCtorEq,reduceAdd,reduceEqDiff,lt_irrefl,hr1,h,hc]
   ·have e:rxF s1=s1:=by simp only [rxF,hc,false_eq_true,and_false,if_false]
    rw [e];simp only [JP,Is,H28,hy,BD,vv2,vf,reduceCtorEq,reduceAdd,reduceEqDiff,lt_irrefl,hr1,h,hc]
theorem hd_28 (g:Gh) (s:Ses) (v:Nat) (x:Seg) (f1 f2 f3:AF) (e00:List AV) (g00:Gh) (s00:Ses) (hd:Bz s.dat) (hw:(Ei s.rcv x).2.2=0) (hb:Bud (Ei s.rcv x).2.1.length s) :
  Ev fun n=>∀z again,Gx n (fI C n) (e00,H28 f1 f2 f3 g00 s00 []) z (BB g s v (some x)) again=again (BB (rxG g s x) (Bt (rxX s x)).1 (v+1) (Bt (rxX s x)).2):=by
 have key:=tkD_28 (rxG g s x) (rxX s x) v x (by rw [FV];exact hd);have k146:=s146 s.rcv x;unfold rxG rxX rxH at key ⊢;generalize Ei s.rcv x=w at hw hb k146 key ⊢;obtain ⟨a,l,e⟩:=w;simp only at hw hb key ⊢;subst hw;have kl:=rp_28 g {s with rcv:=a} v x a l [tI a.ses,tI a.tot,.sl 2 (a.known.map Span.enc),.str a.data,.sl 8 (l.map Seg.enc),tI 0] rfl f1 f2 f3 e00 g00 s00 (hb.of rfl rfl rfl rfl rfl rfl rfl rfl);simp only [YS,Rcv.enc,Seg.enc,cons_append,nil_append] at k146;refine (k146.and (kl.and key)).mono fun n h z again => ?_;obtain ⟨h,h2,h3⟩:=h;have h3:=fun e1 hp=>h3 again e1 hp;simp only [BB,H28,isSome_some,Option.getD_some,Is,Seg.enc] at h2 h3 ⊢;simp only [Gx,H28,BD,vv2,vf,reduceCtorEq,reduceAdd,reduceEqDiff,Fx,E9,getElem?_cons_zero,h,bne_self_eq_false,h2,h3]
theorem l32_28:Gx=Gx:=rfl
theorem dp_28 {P:Ses→Prop} (hP:RxP P) (q:RS) (h:q.inv P) (f1 f2 f3:AF) (e00:List AV) (g00:Gh) (s00:Ses) :
  Ev fun n=>∀z,AJ (fun p again=>Gx n (fI C n) (e00,H28 f1 f2 f3 g00 s00 []) z p again) n (BB q.g q.s q.v q.o)=z ([],H28 E0 E0 E0 q.res.1 q.res.2 []):=by
 refine CF (R:=List Tree) (Z:=List AV×Heap→Option (List Tree)) (Q:=Gh×Ses) (B:=fun n z p again=>Gx n (fI C n) (e00,H28 f1 f2 f3 g00 s00 []) z p again) (r:=q.res)
  (fun z r=>z ([],H28 E0 E0 E0 r.1 r.2 [])) (fun q:RS=>BB q.g q.s q.v q.o) RS.step (RS.inv P) (fun q=>q.s.dat.frames.length+(if q.o.isSome then 1 else 0)) RS.res q rfl h rfl
  (fun q hI => ?_) (fun q q' hI hs=>RS.sound hP q q' hI hs) (fun q hI=>RS.fin hP q hI)
 obtain ⟨g,s,v,o⟩:=q;cases o with
 |none=>
  refine Ev.of fun n z again => ?_;simp only [BB,isSome_none,Gx,H28,BD,vv2,vf,reduceCtorEq,reduceAdd,reduceEqDiff,RS.step,Rd.Az]
 |some x=>
  obtain ⟨h1,h2,h3,h4⟩:=hI;refine (hd_28 g s v x f1 f2 f3 e00 g00 s00 h1 h2 h3).mono fun n h z again => ?_;simp only [RS.step,Rd.Ai];exact h z again
theorem rx_28 {P:Ses→Prop} (hP:RxP P) (g:Gh) (s:Ses) (f1 f2 f3:AF) (h:P s) :
  Ev fun n=>∀again,Za n (fI C n) again ([.ptr 6 0],H28 f1 f2 f3 g s [])=again ([],H28 E0 E0 E0 (rxT s.dat.frames.length (g,s)).1 (rxS s.dat.frames.length s) []):=by
 have hr:=hP.dat s h;obtain ⟨i1,i2⟩:=RS.take hP h g 0;have key:=dp_28 hP _ i1 f1 f2 f3 [.ptr 6 0] g s;rw [i2,Ps] at key;simp only at key;cases hf:s.dat.frames with
 |nil=>
  have hn:Ay s.dat=none:=by simp [Ay,hf]
  have e:Bt s=(s,none):=by simp only [Bt,hf]
  rw [e] at key;rw [hf] at key;refine ((Dk s.dat hr).and key).mono fun n h again => ?_;obtain ⟨h,k⟩:=h;rw [hn] at h;simp only [BY.enc,DH] at h;have k:=k again;simp only [BB,H28,isSome_none,getD_none,EX,Seg.enc,map_nil] at k;simp only [Sv,Sg,Qj,H28,BD,vv2,vf,reduceCtorEq,reduceAdd,reduceEqDiff,h,k]
 |cons f l=>
  have hn:Ay s.dat=some f.arr:=by simp [Ay,hf]
  by_cases ha:f.arr=s.now
  ·have e:Bt s=(BF s,some f.seg):=by simp only [Bt,hf,ha,if_true]
   rw [e] at key;rw [hf] at key;refine ((Dk s.dat hr).and ((RE s.dat hr f l hf).and key)).mono fun n h again => ?_;obtain ⟨h,h2,k⟩:=h;rw [hn,ha] at h;simp only [BY.enc,DH] at h h2;have hx:BF s={s with dat:=⟨s.dat.rng,l,s.dat.sent,s.dat.lost⟩}:=by simp only [BF,hf,tail_cons]
   have k:=k again;simp only [BB,H28,isSome_some,Option.getD_some,Seg.enc,hx] at k;simp only [Sv,Sg,Qj,l32_28,H28,BD,vv2,vf,reduceCtorEq,reduceAdd,reduceEqDiff,h,h2,bne_self_eq_false,k]
  ·have ha':(f.arr != s.now)=true:=by simpa using ha
   have e:Bt s=(s,none):=by simp only [Bt,hf,ha,if_false]
   rw [e] at key;rw [hf] at key;refine ((Dk s.dat hr).and key).mono fun n h again => ?_;obtain ⟨h,k⟩:=h;rw [hn] at h;simp only [BY.enc,DH] at h;have k:=k again;simp only [BB,H28,isSome_none,getD_none,EX,Seg.enc,map_nil] at k;simp only [Sv,Sg,Qj,H28,BD,vv2,vf,reduceCtorEq,reduceAdd,reduceEqDiff,h,ha',k]
end Ab
set_option linter.unusedVariables false
set_option linter.unusedSimpArgs false
set_option maxRecDepth 100000
namespace Ab
open Go
theorem stp_28 {W P1 P2:Ses→Prop} {μ:Ses→Nat} (hR:Sn W P1 P2 μ) (g:Gh) (s:Ses) (t:Int) (h:W s) (ht:nxS s=some t) (f1 f2 f3:AF) (e00:List AV) (g00:Gh) (s00:Ses) :
  Ev fun n=>∀z again,N0 n (fI C n) (e00,H28 f1 f2 f3 g00 s00 []) z (CP (nxS s),H28 E0 E0 E0 g s []) again=again (CP (nxS (stS s t)),H28 E0 E0 E0 (stT (g,s) t).1 (stS s t) []):=by
 have k0:=tx_28 g {s with now:=t} (.row true (AF.ver f1) 15 (Aq f1)) (.row true (AF.ver f2) 4 (Aq f2)) (.row true (AF.ver f3) 4 (Aq f3)) (hR.tx s t h ht);have k1:=rx_28 hR.rx (g1T g s t) (ph1 s t) (.row true (AF.ver f1) 15 (Aq f1)) (.row true (AF.ver f2) 4 (Aq f2)) (.row true (AF.ver f3) 4 (Aq f3)) (hR.p1 s t h ht);have k2:=ls_28 hR.ls (g2T g s t) (ph2 s t) (.row true (AF.ver f1) 15 (Aq f1)) (.row true (AF.ver f2) 4 (Aq f2)) (.row true (AF.ver f3) 4 (Aq f3)) (hR.p2 s t h ht);have hx:=hR.ex s t h ht;have k3:=ex_28 (g3T g s t) (ph3 s t) (.row true (AF.ver f1) 15 (Aq f1)) (.row true (AF.ver f2) 4 (Aq f2)) (.row true (AF.ver f3) 4 (Aq f3)) hx.ent hx.ack hx.pl hx.w;obtain ⟨n1,n2,n3⟩:=hR.nx _ (hR.st s t h ht).1;have k4:=nx_28 (exG (g3T g s t) (ph3 s t)) (stS s t) (.row true (AF.ver f1) 15 (Aq f1)) (.row true (AF.ver f2) 4 (Aq f2)) (.row true (AF.ver f3) 4 (Aq f3)) n1 n2 n3;refine (k0.and (k1.and (k2.and (k3.and (k4.and (Ev.ge 5)))))).mono fun n hh z again => ?_;obtain ⟨k0,k1,k2,k3,k4,hn⟩:=hh;have q:AJ (fun p again'=>JO n (fI C n) (e00,H28 f1 f2 f3 g00 s00 []) again p again') n ([.t (tI 0)],H28 E0 E0 E0 g {s with now:=t} [])=again (CP (nxS (stS s t)),H28 E0 E0 E0 (exG (g3T g s t) (ph3 s t)) (stS s t) []):=by
  refine M7 _ _ ([.t (tI 1)],H28 E0 E0 E0 (g1T g s t) (ph1 s t) []) ([.t (tI 2)],H28 E0 E0 E0 (g2T g s t) (ph2 s t) []) ([.t (tI 3)],H28 E0 E0 E0 (g3T g s t) (ph3 s t) []) ([.t (tI 4)],H28 E0 E0 E0 (exG (g3T g s t) (ph3 s t)) (stS s t) []) _ n hn (fun ag => ?_) (fun ag => ?_) (fun ag => ?_) (fun ag => ?_) (fun ag => ?_)
  ·have k0:=fun ag=>k0 ag;simp only [H28] at k0;simp only [JO,IA,H28,BD,vv2,vf,reduceCtorEq,reduceAdd,reduceEqDiff,(show ¬(0:Int)=((3:Nat):Int) by omega),(show ¬(0:Int)=((2:Nat):Int) by omega),(show ¬(0:Int)=((1:Nat):Int) by omega),(show (0:Int)=((0:Nat):Int) by omega),(show (0:Int)<4 by omega),(show (0:Int)≤0 by omega),k0];rfl
  ·have k1:=fun ag=>k1 ag;simp only [H28] at k1;simp only [JO,IA,H28,BD,vv2,vf,reduceCtorEq,reduceAdd,reduceEqDiff,(show ¬(1:Int)=((3:Nat):Int) by omega),(show ¬(1:Int)=((2:Nat):Int) by omega),(show (1:Int)=((1:Nat):Int) by omega),(show (1:Int)<4 by omega),(show (0:Int)≤1 by omega),k1];rfl
  ·have k2:=fun ag=>k2 ag;simp only [H28] at k2;simp only [JO,IA,H28,BD,vv2,vf,reduceCtorEq,reduceAdd,reduceEqDiff,(show ¬(2:Int)=((3:Nat):Int) by omega),(show (2:Int)=((2:Nat):Int) by omega),(show (2:Int)<4 by omega),(show (0:Int)≤2 by omega),k2];rfl
  ·have k3:=fun ag=>k3 ag;simp only [H28] at k3;simp only [JO,IA,H28,BD,vv2,vf,reduceCtorEq,reduceAdd,reduceEqDiff,(show (3:Int)=((3:Nat):Int) by omega),(show (3:Int)<4 by omega),(show (0:Int)≤3 by omega),k3];rfl
  ·have k4:=fun ag=>k4 ag;simp only [H28] at k4;simp only [JO,ZJ,H28,BD,vv2,vf,reduceCtorEq,reduceAdd,reduceEqDiff,(show ¬(4:Int)<4 by omega),k4,CP]
 rw [ht];simp only [H28] at q;simp only [N0,CP,Option.getD_some,isSome_some,H28,BD,vv2,vf,reduceCtorEq,reduceAdd,reduceEqDiff];exact q
theorem rn_28 {W P1 P2:Ses→Prop} {μ:Ses→Nat} (hR:Sn W P1 P2 μ) (g:Gh) (s:Ses) (f1 f2 f3:AF) (h:W s) :
  Ev fun n=>∀again,Vu n (fI C n) again ([.ptr 6 0],H28 f1 f2 f3 g s [])=again ([],H28 E0 E0 E0 (rnT (μ s) (g,s)).1 (HJ (μ s) s) []):=by
 have key:=CF (R:=List Tree) (Z:=List AV×Heap→Option (List Tree)) (Q:=Gh×Ses) (B:=fun n z p again=>N0 n (fI C n) ([.ptr 6 0],H28 f1 f2 f3 g s []) z p again)
  (s:=((CP (nxS s),H28 E0 E0 E0 g s []):List AV×Heap)) (r:=rnT (μ s) (g,s))
  (fun z r=>z ([],H28 E0 E0 E0 r.1 r.2 [])) (fun q:Gh×Ses=>((CP (nxS q.2),H28 E0 E0 E0 q.1 q.2 []):List AV×Heap)) (fun q=>match nxS q.2 with
   |none =>.done q
   |some t =>.next (stT q t)) (fun q=>W q.2) (fun q=>μ q.2) (fun q=>rnT (μ q.2) q) (g,s) rfl h rfl
  (fun q hI => ?_) (fun q q' hI hs => ?_) (fun q hI => ?_)
 ·obtain ⟨n1,n2,n3⟩:=hR.nx s h;have k4:=nx_28 g s (.row true (AF.ver f1) 15 (Aq f1)) (.row true (AF.ver f2) 4 (Aq f2)) (.row true (AF.ver f3) 4 (Aq f3)) n1 n2 n3;refine (key.and k4).mono fun n hh again => ?_;obtain ⟨k,k4⟩:=hh;have k:=k again;rw [Pu] at k;simp only [H28,CP] at k k4;simp only [tC28_8,Y3,ZI,H28,BD,vv2,vf,reduceCtorEq,reduceAdd,reduceEqDiff,k4,k]
 ·obtain ⟨g1,s1⟩:=q;simp only at hI ⊢;cases hn:nxS s1 with
  |none=>
   refine Ev.of fun n z again => ?_;simp only [N0,CP,getD_none,isSome_none,H28,BD,vv2,vf,reduceCtorEq,reduceAdd,reduceEqDiff,Rd.Az]
  |some t=>
   have:=stp_28 hR g1 s1 t hI hn f1 f2 f3 [.ptr 6 0] g s;rw [hn] at this;refine this.mono fun n h z again => ?_;simp only [Rd.Ai];exact h z again
 ·cases hn:nxS q.2 with
  |none=>rw [hn] at hs;cases hs
  |some t=>
   rw [hn] at hs;cases hs;exact hR.st q.2 t hI hn
 ·cases hn:nxS q.2 with
  |none=>
   cases hm:μ q.2 with
   |zero=>rfl
   |succ m=>simp only [rnT,hn,Rd.fin]
  |some t=>
   obtain ⟨h1,h2⟩:=hR.st q.2 t hI hn;simp only [Rd.fin];cases hm:μ q.2 with
   |zero=>omega
   |succ m=>
    simp only [rnT,hn];exact Gc hR m (stT q t) h1 (by simp only [stT];omega)
end Ab
set_option linter.unusedVariables false
set_option linter.unusedSimpArgs false
set_option maxRecDepth 100000
namespace Ab
open Go
theorem s28 {W P1 P2:Ses→Prop} {μ:Ses→Nat} (hR:Sn W P1 P2 μ) (c:Con) (b e:Int) (d:ByteArray) (ps:List Int) (lim:Int) (dk:List Span) (hW:K4 c b e d ps lim dk=0→W (ini c b e d ps lim dk)) :
  AT C 28 (F8 c b e d ps lim dk) (if K4 c b e d ps lim dk=0 then Ta (HJ (μ (ini c b e d ps lim dk)) (ini c b e d ps lim dk)) else [.sl 9 [],.sl 9 [],tI (K4 c b e d ps lim dk)]):=by
 unfold F8 K4 at *;refine AT.of (fun n=>e28 n _ _ _ _ _ _ _ _ _ _ _ _ _) ?_;by_cases h1:1000<ps.length
 ·refine Ev.of fun n => ?_;simp only [h1,vv2,vf,reduceCtorEq,reduceAdd,reduceEqDiff,(show (1000:Int)<(ps.length:Int) by omega),(show ¬(4:Int)=0 by omega)]
 ·have h1':¬(1000:Int)<(ps.length:Int):=by omega
  by_cases h2:lim < -1
  ·refine Ev.of fun n => ?_;simp only [h1,h1',h2,vv2,vf,reduceCtorEq,reduceAdd,reduceEqDiff,(show ¬(2:Int)=0 by omega)]
  ·by_cases h3:BG dk=0
   ·by_cases h4:(Bi c 0 d b e).2.2=0
    ·have hr:=Oe h4;simp only [h1,h2,h3,h4,if_false,ne_eq,not_true_eq_false,if_true] at hW ⊢;have kr:=rn_28 hR ⟨0,0,0,[]⟩ (ini c b e d ps lim dk) (.row true 0 15 [(ini c b e d ps lim dk).snd.enc]) (.row true 0 4 [[tI c.rng,.sl 10 [],tI 0,tI 0]]) (.row true 0 4 [[tI 0,tI (-1),.sl 2 [],.str (ByteArray.mk #[])]]) (hW trivial);refine ((s67 dk).and ((Jk c 0 d b e).and ((s69 c.rng hr).and ((s70 0).and kr)))).mono fun n hh => ?_;obtain ⟨k1,k2,k3,k4,kr⟩:=hh;have k4':YD 0=(⟨0,-1,[],ByteArray.mk #[]⟩,0):=rfl;rw [k4'] at k4;simp only [Dm,h4,Con.enc,Snd.enc,Rcv.enc,cons_append,nil_append,map_nil] at k2 k4;simp only [h1',h2,h3,k1,k2,k3,k4,vv2,vf,reduceCtorEq,reduceAdd,reduceEqDiff,bne_self_eq_false];refine (kr _).trans ?_;generalize HJ (μ (ini c b e d ps lim dk)) (ini c b e d ps lim dk)=fs;generalize (rnT (μ (ini c b e d ps lim dk)) (⟨0,0,0,[]⟩,ini c b e d ps lim dk)).1=g;simp only [T7,Ta,H28,BD,vv2,vf,reduceCtorEq,reduceAdd,reduceEqDiff,drop_zero];rw [take_of_length_le (by simp),take_of_length_le (by simp)]
    ·have h4':((Bi c 0 d b e).2.2 != 0)=true:=by simpa using h4
     refine ((s67 dk).and (Jk c 0 d b e)).mono fun n hh => ?_;obtain ⟨k1,k2⟩:=hh;simp only [Dm,Con.enc,Snd.enc,cons_append,nil_append] at k2;simp only [h1,h1',h2,h3,h4,k1,k2,h4',vv2,vf,reduceCtorEq,reduceAdd,reduceEqDiff,bne_self_eq_false,ne_eq,not_true_eq_false]
   ·have h3':(BG dk != 0)=true:=by simpa using h3
    refine (s67 dk).mono fun n k1 => ?_;simp only [h1,h1',h2,h3,k1,h3',vv2,vf,reduceCtorEq,reduceAdd,reduceEqDiff,ne_eq,not_false_eq_true,(show ¬(1:Int)=0 by omega)]
end Ab
