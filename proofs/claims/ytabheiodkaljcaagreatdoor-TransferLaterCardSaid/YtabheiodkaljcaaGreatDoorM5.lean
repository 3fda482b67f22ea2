/- A part of the proof: see the last text. -/
import Derived.Test.YtabheiodkaljcaaGreatDoorM4
import Derived.Shelf.Strings.Builder1
import Derived.Shelf.Strings.Builder2
import Derived.Shelf.Strings.BuilderF
import Derived.Shelf.Strings.Prefix
import Derived.Shelf.Bits.Mul64
import Derived.Shelf.Strings.Repeat
import Derived.Test.YtabheiodkaljcaaGreatDoorProg
import Derived.Deep.LoopGhost
import Derived.Below
import Derived.WideMake
import Derived.WalkKit
set_option maxRecDepth 100000
set_option linter.unusedVariables false
namespace Ab
open Go Go.Proofs
def HG:List Sh:=[Sh.b,Sh.i,Sh.b,Sh.i,Sh.i,Sh.i,Sh.i]
def A1:List Sh:=[Sh.i,Sh.l 10,Sh.i,Sh.i,Sh.i,Sh.l 10,Sh.i,Sh.i,Sh.l 1,Sh.i,Sh.l 2,Sh.i,Sh.i,Sh.r 5,Sh.r 6,Sh.i,Sh.i,Sh.i,Sh.i,Sh.i,Sh.i,Sh.i,Sh.i,Sh.i,Sh.s,Sh.i,Sh.i,Sh.i,Sh.l 2,Sh.i,Sh.i,Sh.i,Sh.i,Sh.l 2,Sh.s,Sh.r 1,Sh.b,Sh.i,Sh.b,Sh.i]
def Bd:List OSh:=[OSh.box HG,OSh.row 9,OSh.frz 15,OSh.frz 4,OSh.frz 4,OSh.row 9,OSh.row 9,OSh.box A1]
def Cc:List Sh:=[]
def BSB_4:List Sh:=[Sh.i]
def BSB_5:List Sh:=[Sh.b]
def C7:List OSh:=[OSh.box HG,OSh.row 9,OSh.box Cc,OSh.box Cc,OSh.box Cc,OSh.row 9,OSh.row 9,OSh.box A1,OSh.box BSB_4,OSh.box BSB_5]
def BI:List OSh:=[OSh.box HG,OSh.row 9,OSh.box Cc,OSh.box Cc,OSh.box Cc,OSh.row 9,OSh.row 9,OSh.box A1]
def RD:List Sh:=[Sh.i,Sh.i,Sh.i,Sh.i,Sh.i,Sh.b,Sh.s,Sh.l 2]
def OF:List OSh:=[OSh.box HG,OSh.row 9,OSh.box Cc,OSh.box Cc,OSh.box Cc,OSh.row 9,OSh.row 9,OSh.box A1,OSh.box RD]
def B7:List OSh:=[OSh.box HG,OSh.row 9,OSh.box Cc,OSh.box Cc,OSh.box Cc,OSh.row 9,OSh.row 9,OSh.box A1,OSh.row 8]
def KV:List OSh:=[OSh.box HG,OSh.row 9,OSh.box Cc,OSh.box Cc,OSh.box Cc,OSh.row 9,OSh.row 9,OSh.box A1,OSh.row 8,OSh.box RD]
def PR:List Sh:=[Sh.i,Sh.i,Sh.l 2,Sh.s]
def IW:List OSh:=[OSh.box HG,OSh.row 9,OSh.frz 15,OSh.frz 4,OSh.frz 4,OSh.row 9,OSh.row 9,OSh.box A1,OSh.row 8,OSh.box PR,OSh.box RD]
def B6:List OSh:=[OSh.box HG,OSh.row 9,OSh.box Cc,OSh.box Cc,OSh.box Cc,OSh.row 9,OSh.row 9,OSh.box A1,OSh.row 8,OSh.box PR,OSh.box RD]
def W6:List Sh:=[Sh.i,Sh.l 10,Sh.i,Sh.i]
def KU:List OSh:=[OSh.box HG,OSh.row 9,OSh.box Cc,OSh.box Cc,OSh.box Cc,OSh.row 9,OSh.row 9,OSh.box A1,OSh.row 8,OSh.box PR,OSh.box RD,OSh.box W6]
def M0:List OSh:=[OSh.box HG,OSh.row 9,OSh.box Cc,OSh.box Cc,OSh.box Cc,OSh.row 9,OSh.row 9,OSh.box A1,OSh.row 8,OSh.box PR]
def KS:List OSh:=[OSh.box HG,OSh.row 9,OSh.box Cc,OSh.box Cc,OSh.box Cc,OSh.row 9,OSh.row 9,OSh.box A1,OSh.box W6]
def Dy:List FuncId:=[50,51,52,53,54,71,96,124,125,126,127,144]
noncomputable def J26_1 (n:Nat) (ff:Nat→Rec) (k26:KT) (p28:ST):RT:=k26 ([],rh p28 0 C7)
noncomputable def Wq (n:Nat) (ff:Nat→Rec) (k20:KT) (p70:ST):RT:=k20 (tv [tI (cI p70 8 0),.bool (cB p70 9 0)],rh p70 0 BI)
noncomputable def Mt (n:Nat) (ff:Nat→Rec) (p52:ST) (k20:KT) (p64:ST):RT:=Ak (.box [AV.yld 40,.t (tI (cI p52 7 29))]) (.box [AV.yld 40,.t (tI (cI p64 7 29))]) (join (Wq n ff k20) fun k71=>cnd (vB p64 0=true) (cnd ((!(cB p64 9 0))=true) (k71 ([],upd (rh p64 0 C7) [(8,.box [.t (tI (cI p52 7 29))]),(9,.box [.t (.bool true)])])) (cnd (decide (cI p52 7 29<cI p64 8 0)=true) (k71 ([],upd (rh p64 0 C7) [(8,.box [.t (tI (cI p52 7 29))]),(9,.box [.t (.bool true)])])) (k71 ([],rh p64 0 C7)))) (k71 ([],rh p64 0 C7)))
noncomputable def Tp (n:Nat) (ff:Nat→Rec) (k20:KT) (p52:ST):RT:=join (Mt n ff p52 k20) fun k65=>cnd ((cI p52 7 30==1)=true) (k65 ([.t (.bool (!(decide (cI p52 7 11≥(10000:Int)))))],rh p52 0 C7)) (k65 ([.t (.bool false)],rh p52 0 C7))
noncomputable def OE (n:Nat) (ff:Nat→Rec) (k20:KT) (p39:ST):RT:=bd [0,1] (AA C n 122 (ct [0,13,0,0] p39 7 4 [])) fun y51=>join (Tp n ff k20) fun k53=>cnd (gB y51 1=true) (cnd ((!(cB p39 9 0))=true) (k53 ([],upd (rh p39 0 C7) [(8,.box [.t (tI (gI y51 0))]),(9,.box [.t (.bool true)])])) (cnd (decide (gI y51 0<cI p39 8 0)=true) (k53 ([],upd (rh p39 0 C7) [(8,.box [.t (tI (gI y51 0))]),(9,.box [.t (.bool true)])])) (k53 ([],rh p39 0 C7)))) (k53 ([],rh p39 0 C7))
noncomputable def OD (n:Nat) (ff:Nat→Rec) (k20:KT) (p25:ST):RT:=bd [0,1] (AA C n 122 (ct [0,13,0,0] p25 7 0 [])) fun y38=>join (OE n ff k20) fun k40=>cnd (gB y38 1=true) (cnd ((!(cB p25 9 0))=true) (k40 ([],upd (rh p25 0 C7) [(8,.box [.t (tI (gI y38 0))]),(9,.box [.t (.bool true)])])) (cnd (decide (gI y38 0<cI p25 8 0)=true) (k40 ([],upd (rh p25 0 C7) [(8,.box [.t (tI (gI y38 0))]),(9,.box [.t (.bool true)])])) (k40 ([],rh p25 0 C7)))) (k40 ([],rh p25 0 C7))
noncomputable def Wm (n:Nat) (ff:Nat→Rec) (k20:KT) (p23:ST):RT:=cnd (AE p23 1=AI p23 7 35) (join (OD n ff k20) fun k26=>cnd (decide ((AH p23 7 35:Int)>0)=true) (cnd (AE p23 1=AI p23 7 35∧9=9∧(0:Int)≤0∧0<(AH p23 7 35:Int)) (cnd (AE p23 1=AI p23 7 35) (cnd (AE p23 1=AI p23 7 35) (Option.bind (oEs p23 1)[AO p23 7 35]? fun y27=>cnd (okI y27 0) (join (J26_1 n ff k26) fun k29=>cnd ((!(cB p23 9 0))=true) (k29 ([],upd (rh p23 0 C7) [(8,.box [.t (tI (gI y27 0))]),(9,.box [.t (.bool true)])])) (cnd (decide (gI y27 0<cI p23 8 0)=true) (k29 ([],upd (rh p23 0 C7) [(8,.box [.t (tI (gI y27 0))]),(9,.box [.t (.bool true)])])) (k29 ([],rh p23 0 C7)))) none) none) none) none) (k26 ([],rh p23 0 C7))) none
noncomputable def Tt (n:Nat) (ff:Nat→Rec) (k20:KT) (p19:ST):RT:=ff 10 (List Tree) (.fn 96 [AV.ptr 7 0]) (rh p19 0 Bd) fun rs h1=>cnd (Bj C.P (BD C.P 96) rs=true) (Fc (rh p19 0 Bd) h1 fun hs=>k20 (rs,hs)) none
noncomputable def Tk (n:Nat) (ff:Nat→Rec) (k20:KT) (p19:ST):RT:=join (Wm n ff k20) fun k24=>cnd (decide (cI p19 7 11≥(10000:Int))=true) (cnd (AE p19 1=AI p19 7 35) (k24 ([],upd (rh p19 0 C7) [(7,.box (upd (rb p19 7 0 A1) [(35,.sref 1 (AI p19 7 35) (List.length (oEs p19 1)) 0)])),(8,.box [.t (tI 0)]),(9,.box [.t (.bool false)])])) none) (k24 ([],upd (rh p19 0 C7) [(8,.box [.t (tI 0)]),(9,.box [.t (.bool false)])]))
theorem vC26_1 (n:Nat) (ff:Nat→Rec) (k20:KT) (p19:ST):Dx C (Hk C (pcx C (AA C n)) n ff Dy 9) (pcx C (AA C n)) n 96 [AV.ptr 7 0] (rh p19 0 Bd) (fun rs h1=>cnd (Bj C.P (BD C.P 96) rs=true) (Fc (rh p19 0 Bd) h1 fun hs=>k20 (rs,hs)) none)=Tk n ff k20 p19:=by kernel_rfl
theorem VA (n:Nat) (k20:KT) (p19:ST):Tt n (fI C n) k20 p19=Tk n (fI C n) k20 p19:=(Kl C n Dy 9 _ 96 _ _ _).trans (vC26_1 n (fI C n) k20 p19)
noncomputable def To (n:Nat) (ff:Nat→Rec) (k91:KT) (p92:ST):RT:=cnd ((!(vB p92 0))=true) (k91 ([.t (.bool true)],rh p92 0 BI)) (k91 ([.t (.bool ((cI p92 7 29) != cI p92 7 15))],rh p92 0 BI))
noncomputable def Tn (n:Nat) (ff:Nat→Rec) (k89:KT) (p90:ST):RT:=cnd (vB p90 0=true) (k89 ([],rh p90 0 BI)) (bd [0,0,0,0,0,0,0,0,2,0,0,0,5,0,0,12,0] (AA C n 149 (ct kS p90 7 16 [tI (cI p90 7 15)])) fun y98=>cnd (((gI y98 16) != 0)=true) (k89 ([],upd (rh p90 0 BI) [(7,.box (upd (rb p90 7 0 A1) [(29,.t (tI 0)),(30,.t (tI 3))]))])) (cnd (List.length (gL y98 15)=0∧AO p90 7 35+AH p90 7 35<List.length (oEs p90 1)) (cnd (AE p90 1=AI p90 7 35) (k89 ([],upd (rh p90 0 BI) [(7,.box (upd (rb p90 7 0 A1) [(16,.t (tI (gI y98 0))),(17,.t (tI (gI y98 1))),(18,.t (tI (gI y98 2))),(19,.t (tI (gI y98 3))),(20,.t (tI (gI y98 4))),(21,.t (tI (gI y98 5))),(22,.t (tI (gI y98 6))),(23,.t (tI (gI y98 7))),(24,.t (.str (gS y98 8))),(25,.t (tI (gI y98 9))),(26,.t (tI (gI y98 10))),(27,.t (tI (gI y98 11))),(28,.t (.sl 2 (gL y98 12))),(29,.t (tI (gI y98 13))),(30,.t (tI (gI y98 14)))]))])) none) (cnd (AE p90 1=AI p90 7 35∧(9=9∨9=0)∧AO p90 7 35+AH p90 7 35≤List.length (oEs p90 1)∧AH p90 7 35+List.length (gL y98 15)≤1073741824) (k89 ([],upd (rh p90 0 BI) [(1,.row false (AI p90 7 35+1) 9 (List.take (AH p90 7 35) (List.drop (AO p90 7 35) (oEs p90 1))++gL y98 15)),(7,.box (upd (rb p90 7 0 A1) [(16,.t (tI (gI y98 0))),(17,.t (tI (gI y98 1))),(18,.t (tI (gI y98 2))),(19,.t (tI (gI y98 3))),(20,.t (tI (gI y98 4))),(21,.t (tI (gI y98 5))),(22,.t (tI (gI y98 6))),(23,.t (tI (gI y98 7))),(24,.t (.str (gS y98 8))),(25,.t (tI (gI y98 9))),(26,.t (tI (gI y98 10))),(27,.t (tI (gI y98 11))),(28,.t (.sl 2 (gL y98 12))),(29,AV.t (tI (gI y98 13))),(30,.t (tI (gI y98 14))),(35,.sref 1 (AI p90 7 35+1) 0 (AH p90 7 35+List.length (gL y98 15)))]))])) none)))
noncomputable def W5 (n:Nat) (ff:Nat→Rec) (k89:KT) (p88:ST):RT:=ff 10 (List Tree) (.fn 127 [AV.ptr 7 0]) (rh p88 0 Bd) fun rs h1=>cnd (Bj C.P (BD C.P 127) rs=true) (Fc (rh p88 0 Bd) h1 fun hs=>k89 (rs,hs)) none
noncomputable def RA (n:Nat) (ff:Nat→Rec) (k89:KT) (p88:ST):RT:=join (Tn n ff k89) fun k91=>join (To n ff k91) fun k93=>cnd ((cI p88 7 30==1)=true) (k93 ([.t (.bool (!(decide (cI p88 7 11≥(10000:Int)))))],rh p88 0 BI)) (k93 ([.t (.bool false)],rh p88 0 BI))
theorem vC26_2 (n:Nat) (ff:Nat→Rec) (k89:KT) (p88:ST):Dx C (Hk C (pcx C (AA C n)) n ff Dy 9) (pcx C (AA C n)) n 127 [AV.ptr 7 0] (rh p88 0 Bd) (fun rs h1=>cnd (Bj C.P (BD C.P 127) rs=true) (Fc (rh p88 0 Bd) h1 fun hs=>k89 (rs,hs)) none)=RA n ff k89 p88:=by kernel_rfl
theorem RI (n:Nat) (k89:KT) (p88:ST):W5 n (fI C n) k89 p88=RA n (fI C n) k89 p88:=(Kl C n Dy 9 _ 127 _ _ _).trans (vC26_2 n (fI C n) k89 p88)
noncomputable def G9 (n:Nat) (ff:Nat→Rec) (k87:KT) (p86 p99:ST):RT:=k87 ([.t (tI (w64 (vI p86 0+1)))],rh p99 0 BI)
noncomputable def PJ (n:Nat) (ff:Nat→Rec) (p108:ST) (k107:KT) (p130:ST):RT:=cnd (vB p130 0=true) (cnd (AE p130 8=AE p108 8+1∧8≤8) (Option.bind (oEs p130 8)[0]? fun y132=>k107 ([.rptr 8 (AE p108 8+1) 0 0,.t (.bool false)],upd (rh p130 0 B7) [(8,.row false (AE p108 8+1) 8 (List.set (oEs p130 8) 0 (zt kG []++List.drop 8 y132)))])) none) (bd [0,13,0,0,0,0,0,0,0,0,0,1,2,5,0] (AA C n 158 (ct [0,13,0,0] p130 7 4 [])) fun y133=>cnd (AE p130 8=AE p108 8+1∧8≤8) (Option.bind (oEs p130 8)[0]? fun y134=>k107 ([.rptr 8 (AE p108 8+1) 0 0,.t (.bool true)],upd (rh p130 0 B7) [(7,.box (upd (rb p130 7 0 A1) [(4,.t (tI (gI y133 0))),(5,.t (.sl 10 (gL y133 1))),(6,.t (tI (gI y133 2))),(7,.t (tI (gI y133 3)))])),(8,.row false (AE p108 8+1) 8 (List.set (oEs p130 8) 0 (gt kG y133 6 []++List.drop 8 y134)))])) none)
noncomputable def Mv (n:Nat) (ff:Nat→Rec) (p106:ST) (k107:KT) (p108:ST):RT:=cnd (AE p108 8=Kt p106 0) (Option.bind (oEs p108 8)[0]? fun y128=>bk kG 0 y128 (cnd (AE p108 8+1=AE p108 8+1∧8≤8) (bd [0,1] (AA C n 122 (ct [0,13,0,0] p108 7 4 [])) fun y129=>join (PJ n ff p108 k107) fun k131=>cnd ((!(gB y129 1))=true) (k131 ([.t (.bool true)],upd (rh p108 0 KV) [(8,.row false (AE p108 8+1) 8 [[tI (gI y128 0),tI (gI y128 1),tI (gI y128 2),tI (gI y128 3),tI (gI y128 4),.bool (gB y128 5),.str (gS y128 6),.sl 2 (gL y128 7)]]),(9,.box (tv (zt kG [])))])) (k131 ([.t (.bool ((gI y129 0) != cI p108 7 15))],upd (rh p108 0 KV) [(8,.row false (AE p108 8+1) 8 [[tI (gI y128 0),tI (gI y128 1),tI (gI y128 2),tI (gI y128 3),tI (gI y128 4),.bool (gB y128 5),.str (gS y128 6),.sl 2 (gL y128 7)]]),(9,.box (tv (zt kG [])))]))) none)) none
noncomputable def Ea (n:Nat) (ff:Nat→Rec) (k102:KT) (p106:ST) (k107:KT):RT:=cnd (vB p106 1=true) (join (Mv n ff p106 k107) fun k109=>cnd (decide (cI p106 7 15<cI p106 7 26)=true) (k109 ([],rh p106 0 B7)) (cnd (AE p106 8=Kt p106 0) (Option.bind (oEs p106 8)[0]? fun y110=>bk kG 0 y110 (bd [0,0,0,0,0,0,0,0,2,0,0,0,5,0,0,12,0] (AA C n 148 (ct kS p106 7 16 (tI (cI p106 7 15)::gt kG y110 0 []))) fun y111=>cnd (((gI y111 16) != 0)=true) (k109 ([],rh p106 0 B7)) (cnd (List.length (gL y111 15)=0∧AO p106 7 35+AH p106 7 35<List.length (oEs p106 1)) (cnd (AE p106 1=AI p106 7 35) (cnd ((!(cB p106 7 38))=true) (cnd ((gI y111 14==2)=true) (k109 ([],upd (rh p106 0 B7) [(7,.box (upd (rb p106 7 0 A1) [(16,.t (tI (gI y111 0))),(17,.t (tI (gI y111 1))),(18,.t (tI (gI y111 2))),(19,.t (tI (gI y111 3))),(20,.t (tI (gI y111 4))),(21,.t (tI (gI y111 5))),(22,.t (tI (gI y111 6))),(23,.t (tI (gI y111 7))),(24,.t (.str (gS y111 8))),(25,.t (tI (gI y111 9))),(26,AV.t (tI (gI y111 10))),(27,.t (tI (gI y111 11))),(28,.t (.sl 2 (gL y111 12))),(29,.t (tI (gI y111 13))),(30,.t (tI (gI y111 14))),(38,.t (.bool true)),(39,.t (tI (cI p106 7 15)))]))])) (k109 ([],upd (rh p106 0 B7) [(7,.box (upd (rb p106 7 0 A1) [(16,.t (tI (gI y111 0))),(17,.t (tI (gI y111 1))),(18,.t (tI (gI y111 2))),(19,.t (tI (gI y111 3))),(20,.t (tI (gI y111 4))),(21,.t (tI (gI y111 5))),(22,.t (tI (gI y111 6))),(23,.t (tI (gI y111 7))),(24,.t (.str (gS y111 8))),(25,.t (tI (gI y111 9))),(26,.t (tI (gI y111 10))),(27,.t (tI (gI y111 11))),(28,.t (.sl 2 (gL y111 12))),(29,.t (tI (gI y111 13))),(30,.t (tI (gI y111 14)))]))]))) (k109 ([],upd (rh p106 0 B7) [(7,.box (upd (rb p106 7 0 A1) [(16,.t (tI (gI y111 0))),(17,.t (tI (gI y111 1))),(18,.t (tI (gI y111 2))),(19,.t (tI (gI y111 3))),(20,.t (tI (gI y111 4))),(21,.t (tI (gI y111 5))),(22,.t (tI (gI y111 6))),(23,.t (tI (gI y111 7))),(24,.t (.str (gS y111 8))),(25,.t (tI (gI y111 9))),(26,.t (tI (gI y111 10))),(27,.t (tI (gI y111 11))),(28,.t (.sl 2 (gL y111 12))),(29,.t (tI (gI y111 13))),(30,.t (tI (gI y111 14)))]))]))) none) (cnd (AE p106 1=AI p106 7 35∧(9=9∨9=0)∧AO p106 7 35+AH p106 7 35≤List.length (oEs p106 1)∧AH p106 7 35+List.length (gL y111 15)≤1073741824) (cnd ((!(cB p106 7 38))=true) (cnd ((gI y111 14==2)=true) (k109 ([],upd (rh p106 0 B7) [(1,.row false (AI p106 7 35+1) 9 (List.take (AH p106 7 35) (List.drop (AO p106 7 35) (oEs p106 1))++gL y111 15)),(7,.box (upd (rb p106 7 0 A1) [(16,.t (tI (gI y111 0))),(17,.t (tI (gI y111 1))),(18,.t (tI (gI y111 2))),(19,.t (tI (gI y111 3))),(20,.t (tI (gI y111 4))),(21,.t (tI (gI y111 5))),(22,.t (tI (gI y111 6))),(23,.t (tI (gI y111 7))),(24,.t (.str (gS y111 8))),(25,.t (tI (gI y111 9))),(26,.t (tI (gI y111 10))),(27,.t (tI (gI y111 11))),(28,.t (.sl 2 (gL y111 12))),(29,.t (tI (gI y111 13))),(30,.t (tI (gI y111 14))),(35,.sref 1 (AI p106 7 35+1) 0 (AH p106 7 35+List.length (gL y111 15))),(38,.t (.bool true)),(39,.t (tI (cI p106 7 15)))]))])) (k109 ([],upd (rh p106 0 B7) [(1,.row false (AI p106 7 35+1) 9 (List.take (AH p106 7 35) (List.drop (AO p106 7 35) (oEs p106 1))++gL y111 15)),(7,.box (upd (rb p106 7 0 A1) [(16,.t (tI (gI y111 0))),(17,.t (tI (gI y111 1))),(18,.t (tI (gI y111 2))),(19,AV.t (tI (gI y111 3))),(20,.t (tI (gI y111 4))),(21,.t (tI (gI y111 5))),(22,.t (tI (gI y111 6))),(23,.t (tI (gI y111 7))),(24,.t (.str (gS y111 8))),(25,.t (tI (gI y111 9))),(26,.t (tI (gI y111 10))),(27,.t (tI (gI y111 11))),(28,.t (.sl 2 (gL y111 12))),(29,.t (tI (gI y111 13))),(30,.t (tI (gI y111 14))),(35,.sref 1 (AI p106 7 35+1) 0 (AH p106 7 35+List.length (gL y111 15)))]))]))) (k109 ([],upd (rh p106 0 B7) [(1,.row false (AI p106 7 35+1) 9 (List.take (AH p106 7 35) (List.drop (AO p106 7 35) (oEs p106 1))++gL y111 15)),(7,.box (upd (rb p106 7 0 A1) [(16,.t (tI (gI y111 0))),(17,.t (tI (gI y111 1))),(18,.t (tI (gI y111 2))),(19,.t (tI (gI y111 3))),(20,.t (tI (gI y111 4))),(21,.t (tI (gI y111 5))),(22,.t (tI (gI y111 6))),(23,.t (tI (gI y111 7))),(24,.t (.str (gS y111 8))),(25,.t (tI (gI y111 9))),(26,.t (tI (gI y111 10))),(27,.t (tI (gI y111 11))),(28,.t (.sl 2 (gL y111 12))),(29,.t (tI (gI y111 13))),(30,.t (tI (gI y111 14))),(35,.sref 1 (AI p106 7 35+1) 0 (AH p106 7 35+List.length (gL y111 15)))]))]))) none)))) none)) (k102 ([],rh p106 0 BI))
noncomputable def PI (n:Nat) (ff:Nat→Rec) (k102:KT) (p104:ST):RT:=cnd (vB p104 0=true) (AJ (Ea n ff k102) n ([.rptr 8 0 0 0,.t (.bool false)],upd (rh p104 0 B7) [(8,.row false 0 8 [[tI 0,tI 0,tI 0,tI 0,tI 0,.bool false,.str B0,.sl 2 []]])])) (bd [0,13,0,0,0,0,0,0,0,0,0,1,2,5,0] (AA C n 158 (ct [0,13,0,0] p104 7 4 [])) fun y135=>AJ (Ea n ff k102) n ([.rptr 8 0 0 0,.t (.bool true)],upd (rh p104 0 B7) [(7,.box (upd (rb p104 7 0 A1) [(4,.t (tI (gI y135 0))),(5,.t (.sl 10 (gL y135 1))),(6,.t (tI (gI y135 2))),(7,.t (tI (gI y135 3)))])),(8,.row false 0 8 [[tI (gI y135 6),tI (gI y135 7),tI (gI y135 8),tI (gI y135 9),tI (gI y135 10),.bool (gB y135 11),.str (gS y135 12),.sl 2 (gL y135 13)]])]))
noncomputable def W4 (n:Nat) (ff:Nat→Rec) (k102:KT) (p101:ST):RT:=ff 10 (List Tree) (.fn 126 [AV.ptr 7 0]) (rh p101 0 Bd) fun rs h1=>cnd (Bj C.P (BD C.P 126) rs=true) (Fc (rh p101 0 Bd) h1 fun hs=>k102 (rs,hs)) none
noncomputable def Q9 (n:Nat) (ff:Nat→Rec) (k102:KT) (p101:ST):RT:=bd [0,1] (AA C n 122 (ct [0,13,0,0] p101 7 4 [])) fun y103=>join (PI n ff k102) fun k105=>cnd ((!(gB y103 1))=true) (k105 ([.t (.bool true)],upd (rh p101 0 OF) [(8,.box (tv (zt kG [])))])) (k105 ([.t (.bool ((gI y103 0) != cI p101 7 15))],upd (rh p101 0 OF) [(8,.box (tv (zt kG [])))]))
theorem vC26_3 (n:Nat) (ff:Nat→Rec) (k102:KT) (p101:ST):Dx C (Hk C (pcx C (AA C n)) n ff Dy 9) (pcx C (AA C n)) n 126 [AV.ptr 7 0] (rh p101 0 Bd) (fun rs h1=>cnd (Bj C.P (BD C.P 126) rs=true) (Fc (rh p101 0 Bd) h1 fun hs=>k102 (rs,hs)) none)=Q9 n ff k102 p101:=by kernel_rfl
theorem RH (n:Nat) (k102:KT) (p101:ST):W4 n (fI C n) k102 p101=Q9 n (fI C n) k102 p101:=(Kl C n Dy 9 _ 126 _ _ _).trans (vC26_3 n (fI C n) k102 p101)
noncomputable def DF (n:Nat) (ff:Nat→Rec) (p181:ST) (k182:KT) (y189:List Tree) (p194:ST):RT:=cnd (vB p194 0=true) (Ak (.box [AV.yld 40,.t (tI (cI p181 7 4)),.t (.sl 10 (cL p181 7 5)),.t (tI (cI p181 7 6)),.t (tI (cI p181 7 7))]) (.box [AV.yld 40,.t (tI (cI p194 7 4)),.t (.sl 10 (cL p194 7 5)),.t (tI (cI p194 7 6)),.t (tI (cI p194 7 7))]) (Ak (.box [AV.yld 40,.t (tI (cI p181 7 4))]) (.box [AV.yld 40,.t (tI (cI p194 7 4))]) (Ak (.row false (AE p181 5) 9 (oEs p181 5)) (.row false (AE p194 5) 9 (oEs p194 5)) (Ak (.row false (AE p181 6) 9 (oEs p181 6)) (.row false (AE p194 6) 9 (oEs p194 6)) (Ak (.row false (AE p181 1) 9 (oEs p181 1)) (.row false (AE p194 1) 9 (oEs p194 1)) (bd [0,13,0,0,0] (AA C n 156 (ct [0,13,0,0] p181 7 4 [tI (vI p181 3),tI (aI p181 4 0),tI (aI p181 4 1),tI (aI p181 4 2),tI (aI p181 4 3),tI (aI p181 4 4),.bool (aB p181 4 5),.str (aS p181 4 6),.sl 2 (aL p181 4 7),.sl 1 [[tI (cI p181 7 4)]]])) fun y196=>cnd (((gI y196 4) != 0)=true) (k182 ([],rh p194 0 B6)) (cnd (AE p194 6=AI p194 7 14∧(9=9∨9=0)∧AO p194 7 14+AH p194 7 14≤List.length (oEs p194 6)∧AH p194 7 14+1≤1073741824) (k182 ([],upd (rh p194 0 B6) [(6,.row false (AI p194 7 14+1) 9 (List.take (AH p194 7 14) (List.drop (AO p194 7 14) (oEs p194 6))++[[tI (vI p181 3),tI (aI p181 4 0),tI (aI p181 4 1),tI (aI p181 4 2),tI (aI p181 4 3),tI (aI p181 4 4),Tree.bool (aB p181 4 5),.str (aS p181 4 6),.sl 2 (aL p181 4 7)]])),(7,.box (upd (rb p194 7 0 A1) [(4,.t (tI (gI y196 0))),(5,.t (.sl 10 (gL y196 1))),(6,.t (tI (gI y196 2))),(7,.t (tI (gI y196 3))),(11,.t (tI (w64 (cI p194 7 11+1)))),(14,.sref 6 (AI p194 7 14+1) 0 (AH p194 7 14+1))]))])) none))))))) (Ak (.box [AV.yld 40,.t (tI (cI p181 7 4)),.t (.sl 10 (cL p181 7 5)),.t (tI (cI p181 7 6)),.t (tI (cI p181 7 7))]) (.box [AV.yld 40,.t (tI (cI p194 7 4)),.t (.sl 10 (cL p194 7 5)),.t (tI (cI p194 7 6)),.t (tI (cI p194 7 7))]) (Ak (.box [AV.yld 40,.t (tI (cI p181 7 4))]) (.box [AV.yld 40,.t (tI (cI p194 7 4))]) (Ak (.row false (AE p181 5) 9 (oEs p181 5)) (.row false (AE p194 5) 9 (oEs p194 5)) (Ak (.row false (AE p181 6) 9 (oEs p181 6)) (.row false (AE p194 6) 9 (oEs p194 6)) (Ak (.row false (AE p181 1) 9 (oEs p181 1)) (.row false (AE p194 1) 9 (oEs p194 1)) (bd [0,13,0,0,0] (AA C n 156 (ct [0,13,0,0] p181 7 4 [tI (vI p181 3),tI (aI p181 4 0),tI (aI p181 4 1),tI (aI p181 4 2),tI (aI p181 4 3),tI (aI p181 4 4),.bool (aB p181 4 5),.str (aS p181 4 6),.sl 2 (aL p181 4 7),.sl 1 (gL y189 0)])) fun y197=>cnd (((gI y197 4) != 0)=true) (k182 ([],upd (rh p194 0 B6) [(7,.box (upd (rb p194 7 0 A1) [(12,.t (tI (w64 (cI p194 7 12+1))))]))])) (cnd (AE p194 6=AI p194 7 14∧(9=9∨9=0)∧AO p194 7 14+AH p194 7 14≤List.length (oEs p194 6)∧AH p194 7 14+1≤1073741824) (k182 ([],upd (rh p194 0 B6) [(6,.row false (AI p194 7 14+1) 9 (List.take (AH p194 7 14) (List.drop (AO p194 7 14) (oEs p194 6))++[[tI (vI p181 3),tI (aI p181 4 0),tI (aI p181 4 1),tI (aI p181 4 2),tI (aI p181 4 3),tI (aI p181 4 4),.bool (aB p181 4 5),.str (aS p181 4 6),.sl 2 (aL p181 4 7)]])),(7,.box (upd (rb p194 7 0 A1) [(4,.t (tI (gI y197 0))),(5,.t (.sl 10 (gL y197 1))),(6,.t (tI (gI y197 2))),(7,.t (tI (gI y197 3))),(11,.t (tI (w64 (cI p194 7 11+1)))),(12,.t (tI (w64 (cI p194 7 12+1)))),(14,.sref 6 (AI p194 7 14+1) 0 (AH p194 7 14+1))]))])) none)))))))
noncomputable def G8 (n:Nat) (ff:Nat→Rec) (p181:ST) (y189:List Tree) (k182:KT) (p190:ST):RT:=cnd (vB p190 0=true) (Ak (.box [AV.yld 40,.t (tI (cI p181 7 4)),.t (.sl 10 (cL p181 7 5)),.t (tI (cI p181 7 6)),.t (tI (cI p181 7 7))]) (.box [AV.yld 40,.t (tI (cI p190 7 4)),.t (.sl 10 (cL p190 7 5)),.t (tI (cI p190 7 6)),.t (tI (cI p190 7 7))]) (Ak (.box [AV.yld 40,.t (tI (cI p181 7 4))]) (.box [AV.yld 40,.t (tI (cI p190 7 4))]) (Ak (.row false (AE p181 5) 9 (oEs p181 5)) (.row false (AE p190 5) 9 (oEs p190 5)) (Ak (.row false (AE p181 6) 9 (oEs p181 6)) (.row false (AE p190 6) 9 (oEs p190 6)) (Ak (.row false (AE p181 1) 9 (oEs p181 1)) (.row false (AE p190 1) 9 (oEs p190 1)) (bd [0,13,0,0,0] (AA C n 156 (ct [0,13,0,0] p181 7 4 [tI (vI p181 3),tI (aI p181 4 0),tI (aI p181 4 1),tI (aI p181 4 2),tI (aI p181 4 3),tI (aI p181 4 4),.bool (aB p181 4 5),.str (aS p181 4 6),.sl 2 (aL p181 4 7),.sl 1 (gL y189 0)])) fun y193=>cnd (((gI y193 4) != 0)=true) (k182 ([],rh p190 0 B6)) (cnd (AE p190 6=AI p190 7 14∧(9=9∨9=0)∧AO p190 7 14+AH p190 7 14≤List.length (oEs p190 6)∧AH p190 7 14+1≤1073741824) (k182 ([],upd (rh p190 0 B6) [(6,.row false (AI p190 7 14+1) 9 (List.take (AH p190 7 14) (List.drop (AO p190 7 14) (oEs p190 6))++[[tI (vI p181 3),tI (aI p181 4 0),tI (aI p181 4 1),tI (aI p181 4 2),tI (aI p181 4 3),tI (aI p181 4 4),.bool (aB p181 4 5),.str (aS p181 4 6),.sl 2 (aL p181 4 7)]])),(7,.box (upd (rb p190 7 0 A1) [(4,.t (tI (gI y193 0))),(5,.t (.sl 10 (gL y193 1))),(6,.t (tI (gI y193 2))),(7,.t (tI (gI y193 3))),(11,.t (tI (w64 (cI p190 7 11+1)))),(14,.sref 6 (AI p190 7 14+1) 0 (AH p190 7 14+1))]))])) none))))))) (join (DF n ff p181 k182 y189) fun k195=>cnd (decide (cI p190 7 9≥(0:Int))=true) (k195 ([.t (.bool (decide (cI p190 7 12≥cI p190 7 9)))],rh p190 0 KU)) (k195 ([.t (.bool false)],rh p190 0 KU)))
noncomputable def G7 (n:Nat) (ff:Nat→Rec) (p181:ST) (y202:List Tree) (k182:KT) (p203:ST):RT:=cnd (vB p203 0=true) (Ak (.box [AV.yld 40,.t (tI (cI p181 7 4)),.t (.sl 10 (cL p181 7 5)),.t (tI (cI p181 7 6)),.t (tI (cI p181 7 7))]) (.box [AV.yld 40,.t (tI (cI p203 7 4)),.t (.sl 10 (cL p203 7 5)),.t (tI (cI p203 7 6)),.t (tI (cI p203 7 7))]) (Ak (.box [AV.yld 40,.t (tI (cI p181 7 4))]) (.box [AV.yld 40,.t (tI (cI p203 7 4))]) (Ak (.row false (AE p181 5) 9 (oEs p181 5)) (.row false (AE p203 5) 9 (oEs p203 5)) (Ak (.row false (AE p181 6) 9 (oEs p181 6)) (.row false (AE p203 6) 9 (oEs p203 6)) (Ak (.row false (AE p181 1) 9 (oEs p181 1)) (.row false (AE p203 1) 9 (oEs p203 1)) (bd [0,13,0,0,0] (AA C n 156 (ct [0,13,0,0] p181 7 4 [tI (vI p181 3),tI (aI p181 4 0),tI (aI p181 4 1),tI (aI p181 4 2),tI (aI p181 4 3),tI (aI p181 4 4),.bool (aB p181 4 5),.str (aS p181 4 6),.sl 2 (aL p181 4 7),.sl 1 (gL y202 0)])) fun y206=>cnd (((gI y206 4) != 0)=true) (k182 ([],rh p203 0 B6)) (cnd (AE p203 6=AI p203 7 14∧(9=9∨9=0)∧AO p203 7 14+AH p203 7 14≤List.length (oEs p203 6)∧AH p203 7 14+1≤1073741824) (k182 ([],upd (rh p203 0 B6) [(6,.row false (AI p203 7 14+1) 9 (List.take (AH p203 7 14) (List.drop (AO p203 7 14) (oEs p203 6))++[[tI (vI p181 3),tI (aI p181 4 0),tI (aI p181 4 1),tI (aI p181 4 2),tI (aI p181 4 3),tI (aI p181 4 4),.bool (aB p181 4 5),.str (aS p181 4 6),.sl 2 (aL p181 4 7)]])),(7,.box (upd (rb p203 7 0 A1) [(4,.t (tI (gI y206 0))),(5,.t (.sl 10 (gL y206 1))),(6,.t (tI (gI y206 2))),(7,.t (tI (gI y206 3))),(11,.t (tI (w64 (cI p203 7 11+1)))),(14,.sref 6 (AI p203 7 14+1) 0 (AH p203 7 14+1))]))])) none))))))) (join (DF n ff p181 k182 y202) fun k208=>cnd (decide (cI p203 7 9≥(0:Int))=true) (k208 ([.t (.bool (decide (cI p203 7 12≥cI p203 7 9)))],rh p203 0 B6)) (k208 ([.t (.bool false)],rh p203 0 B6)))
noncomputable def W3 (n:Nat) (ff:Nat→Rec) (k182:KT) (p181:ST):RT:=ff 9 (List Tree) (.fn 144 [AV.ptr 7 0,AV.ptr 7 4,.t (tI 1),.t (tI (vI p181 3)),AV.agg (tv [tI (aI p181 4 0),tI (aI p181 4 1),tI (aI p181 4 2),tI (aI p181 4 3),tI (aI p181 4 4),.bool (aB p181 4 5),.str (aS p181 4 6),.sl 2 (aL p181 4 7)])]) (rh p181 0 IW) fun rs h1=>cnd (Bj C.P (BD C.P 144) rs=true) (Fc (rh p181 0 IW) h1 fun hs=>k182 (rs,hs)) none
noncomputable def G4 (n:Nat) (ff:Nat→Rec) (k182:KT) (p181:ST):RT:=cnd (decide (cI p181 7 11≥(10000:Int))=true) (k182 ([],rh p181 0 B6)) (both (bd [1] (AA C n 175 [.sl 2 (cL p181 7 10),tI (vI p181 3)]) fun y185=>cnd (gB y185 0=true) (Ak (.box [AV.yld 40,.t (tI (cI p181 7 4)),.t (.sl 10 (cL p181 7 5)),.t (tI (cI p181 7 6)),.t (tI (cI p181 7 7))]) (.box [AV.yld 40,.t (tI (cI p181 7 4)),.t (.sl 10 (cL p181 7 5)),.t (tI (cI p181 7 6)),.t (tI (cI p181 7 7))]) (Ak (.box [AV.yld 40,.t (tI (cI p181 7 4))]) (.box [AV.yld 40,.t (tI (cI p181 7 4))]) (Ak (.row false (AE p181 5) 9 (oEs p181 5)) (.row false (AE p181 5) 9 (oEs p181 5)) (Ak (.row false (AE p181 6) 9 (oEs p181 6)) (.row false (AE p181 6) 9 (oEs p181 6)) (Ak (.row false (AE p181 1) 9 (oEs p181 1)) (.row false (AE p181 1) 9 (oEs p181 1)) (bd [0,13,0,0,0] (AA C n 156 (ct [0,13,0,0] p181 7 4 [tI (vI p181 3),tI (aI p181 4 0),tI (aI p181 4 1),tI (aI p181 4 2),tI (aI p181 4 3),tI (aI p181 4 4),.bool (aB p181 4 5),.str (aS p181 4 6),.sl 2 (aL p181 4 7),.sl 1 []])) fun y186=>cnd (((gI y186 4) != 0)=true) (k182 ([],rh p181 0 B6)) (cnd (AE p181 6=AI p181 7 14∧(9=9∨9=0)∧AO p181 7 14+AH p181 7 14≤List.length (oEs p181 6)∧AH p181 7 14+1≤1073741824) (k182 ([],upd (rh p181 0 B6) [(6,.row false (AI p181 7 14+1) 9 (List.take (AH p181 7 14) (List.drop (AO p181 7 14) (oEs p181 6))++[[tI (vI p181 3),tI (aI p181 4 0),tI (aI p181 4 1),tI (aI p181 4 2),tI (aI p181 4 3),tI (aI p181 4 4),.bool (aB p181 4 5),.str (aS p181 4 6),.sl 2 (aL p181 4 7)]])),(7,.box (upd (rb p181 7 0 A1) [(4,.t (tI (gI y186 0))),(5,.t (.sl 10 (gL y186 1))),(6,.t (tI (gI y186 2))),(7,.t (tI (gI y186 3))),(11,.t (tI (w64 (cI p181 7 11+1)))),(14,.sref 6 (AI p181 7 14+1) 0 (AH p181 7 14+1))]))])) none))))))) (cnd (((List.length (cL p181 7 8):Int)==0)=true) (Ak (.box [AV.yld 40,.t (tI (cI p181 7 4)),.t (.sl 10 (cL p181 7 5)),.t (tI (cI p181 7 6)),.t (tI (cI p181 7 7))]) (.box [AV.yld 40,.t (tI (cI p181 7 4)),.t (.sl 10 (cL p181 7 5)),.t (tI (cI p181 7 6)),.t (tI (cI p181 7 7))]) (Ak (.box [AV.yld 40,.t (tI (cI p181 7 4))]) (.box [AV.yld 40,.t (tI (cI p181 7 4))]) (Ak (.row false (AE p181 5) 9 (oEs p181 5)) (.row false (AE p181 5) 9 (oEs p181 5)) (Ak (.row false (AE p181 6) 9 (oEs p181 6)) (.row false (AE p181 6) 9 (oEs p181 6)) (Ak (.row false (AE p181 1) 9 (oEs p181 1)) (.row false (AE p181 1) 9 (oEs p181 1)) (bd [0,13,0,0,0] (AA C n 156 (ct [0,13,0,0] p181 7 4 [tI (vI p181 3),tI (aI p181 4 0),tI (aI p181 4 1),tI (aI p181 4 2),tI (aI p181 4 3),tI (aI p181 4 4),.bool (aB p181 4 5),.str (aS p181 4 6),.sl 2 (aL p181 4 7),.sl 1 [[tI (cI p181 7 4)]]])) fun y187=>cnd (((gI y187 4) != 0)=true) (k182 ([],rh p181 0 B6)) (cnd (AE p181 6=AI p181 7 14∧(9=9∨9=0)∧AO p181 7 14+AH p181 7 14≤List.length (oEs p181 6)∧AH p181 7 14+1≤1073741824) (k182 ([],upd (rh p181 0 B6) [(6,.row false (AI p181 7 14+1) 9 (List.take (AH p181 7 14) (List.drop (AO p181 7 14) (oEs p181 6))++[[tI (vI p181 3),tI (aI p181 4 0),tI (aI p181 4 1),tI (aI p181 4 2),tI (aI p181 4 3),tI (aI p181 4 4),.bool (aB p181 4 5),.str (aS p181 4 6),.sl 2 (aL p181 4 7)]])),(7,.box (upd (rb p181 7 0 A1) [(4,.t (tI (gI y187 0))),(5,.t (.sl 10 (gL y187 1))),(6,.t (tI (gI y187 2))),(7,.t (tI (gI y187 3))),(11,.t (tI (w64 (cI p181 7 11+1)))),(14,.sref 6 (AI p181 7 14+1) 0 (AH p181 7 14+1))]))])) none))))))) (cnd ((List.length (cL p181 7 8):Int)=0) none (cnd (1=1∧0≤Int.tmod (cI p181 7 11) (List.length (cL p181 7 8):Int)) (Option.bind (cL p181 7 8)[Int.toNat (Int.tmod (cI p181 7 11) (List.length (cL p181 7 8):Int))]? fun y188=>cnd (okI y188 0) (bd [4,0] (AA C n 176 [tI (gI y188 0),tI (cI p181 7 4)]) fun y189=>join (G8 n ff p181 y189 k182) fun k191=>cnd (decide ((List.length (gL y189 0):Int)>0)=true) (Option.bind (gL y189 0)[0]? fun y192=>cnd (okI y192 0) (k191 ([.t (.bool (gI y192 0==cI p181 7 4))],upd (rh p181 0 KU) [(11,.box (tv (zt [0,13,0,0] [])))])) none) (k191 ([.t (.bool false)],upd (rh p181 0 KU) [(11,.box (tv (zt [0,13,0,0] [])))]))) none) none)))) (bd [1] (AA C n 175 [.sl 2 (cL p181 7 10),tI (vI p181 3)]) fun y198=>cnd (gB y198 0=true) (Ak (.box [AV.yld 40,.t (tI (cI p181 7 4)),.t (.sl 10 (cL p181 7 5)),.t (tI (cI p181 7 6)),.t (tI (cI p181 7 7))]) (.box [AV.yld 40,.t (tI (cI p181 7 4)),.t (.sl 10 (cL p181 7 5)),.t (tI (cI p181 7 6)),.t (tI (cI p181 7 7))]) (Ak (.box [AV.yld 40,.t (tI (cI p181 7 4))]) (.box [AV.yld 40,.t (tI (cI p181 7 4))]) (Ak (.row false (AE p181 5) 9 (oEs p181 5)) (.row false (AE p181 5) 9 (oEs p181 5)) (Ak (.row false (AE p181 6) 9 (oEs p181 6)) (.row false (AE p181 6) 9 (oEs p181 6)) (Ak (.row false (AE p181 1) 9 (oEs p181 1)) (.row false (AE p181 1) 9 (oEs p181 1)) (bd [0,13,0,0,0] (AA C n 156 (ct [0,13,0,0] p181 7 4 [tI (vI p181 3),tI (aI p181 4 0),tI (aI p181 4 1),tI (aI p181 4 2),tI (aI p181 4 3),tI (aI p181 4 4),.bool (aB p181 4 5),.str (aS p181 4 6),.sl 2 (aL p181 4 7),.sl 1 []])) fun y199=>cnd (((gI y199 4) != 0)=true) (k182 ([],rh p181 0 B6)) (cnd (AE p181 6=AI p181 7 14∧(9=9∨9=0)∧AO p181 7 14+AH p181 7 14≤List.length (oEs p181 6)∧AH p181 7 14+1≤1073741824) (k182 ([],upd (rh p181 0 B6) [(6,.row false (AI p181 7 14+1) 9 (List.take (AH p181 7 14) (List.drop (AO p181 7 14) (oEs p181 6))++[[tI (vI p181 3),tI (aI p181 4 0),tI (aI p181 4 1),tI (aI p181 4 2),tI (aI p181 4 3),tI (aI p181 4 4),.bool (aB p181 4 5),.str (aS p181 4 6),.sl 2 (aL p181 4 7)]])),(7,.box (upd (rb p181 7 0 A1) [(4,.t (tI (gI y199 0))),(5,.t (.sl 10 (gL y199 1))),(6,.t (tI (gI y199 2))),(7,.t (tI (gI y199 3))),(11,.t (tI (w64 (cI p181 7 11+1)))),(14,.sref 6 (AI p181 7 14+1) 0 (AH p181 7 14+1))]))])) none))))))) (cnd (((List.length (cL p181 7 8):Int)==0)=true) (Ak (.box [AV.yld 40,.t (tI (cI p181 7 4)),.t (.sl 10 (cL p181 7 5)),.t (tI (cI p181 7 6)),.t (tI (cI p181 7 7))]) (.box [AV.yld 40,.t (tI (cI p181 7 4)),.t (.sl 10 (cL p181 7 5)),.t (tI (cI p181 7 6)),.t (tI (cI p181 7 7))]) (Ak (.box [AV.yld 40,.t (tI (cI p181 7 4))]) (.box [AV.yld 40,.t (tI (cI p181 7 4))]) (Ak (.row false (AE p181 5) 9 (oEs p181 5)) (.row false (AE p181 5) 9 (oEs p181 5)) (Ak (.row false (AE p181 6) 9 (oEs p181 6)) (.row false (AE p181 6) 9 (oEs p181 6)) (Ak (.row false (AE p181 1) 9 (oEs p181 1)) (.row false (AE p181 1) 9 (oEs p181 1)) (bd [0,13,0,0,0] (AA C n 156 (ct [0,13,0,0] p181 7 4 [tI (vI p181 3),tI (aI p181 4 0),tI (aI p181 4 1),tI (aI p181 4 2),tI (aI p181 4 3),tI (aI p181 4 4),.bool (aB p181 4 5),.str (aS p181 4 6),.sl 2 (aL p181 4 7),.sl 1 [[tI (cI p181 7 4)]]])) fun y200=>cnd (((gI y200 4) != 0)=true) (k182 ([],rh p181 0 B6)) (cnd (AE p181 6=AI p181 7 14∧(9=9∨9=0)∧AO p181 7 14+AH p181 7 14≤List.length (oEs p181 6)∧AH p181 7 14+1≤1073741824) (k182 ([],upd (rh p181 0 B6) [(6,.row false (AI p181 7 14+1) 9 (List.take (AH p181 7 14) (List.drop (AO p181 7 14) (oEs p181 6))++[[tI (vI p181 3),tI (aI p181 4 0),tI (aI p181 4 1),tI (aI p181 4 2),tI (aI p181 4 3),tI (aI p181 4 4),.bool (aB p181 4 5),.str (aS p181 4 6),.sl 2 (aL p181 4 7)]])),(7,.box (upd (rb p181 7 0 A1) [(4,AV.t (tI (gI y200 0))),(5,.t (.sl 10 (gL y200 1))),(6,.t (tI (gI y200 2))),(7,.t (tI (gI y200 3))),(11,.t (tI (w64 (cI p181 7 11+1)))),(14,.sref 6 (AI p181 7 14+1) 0 (AH p181 7 14+1))]))])) none))))))) (cnd ((List.length (cL p181 7 8):Int)=0) none (cnd (1=1∧0≤Int.tmod (cI p181 7 11) (List.length (cL p181 7 8):Int)) (Option.bind (cL p181 7 8)[Int.toNat (Int.tmod (cI p181 7 11) (List.length (cL p181 7 8):Int))]? fun y201=>cnd (okI y201 0) (bd [4,0] (AA C n 176 [tI (gI y201 0),tI (cI p181 7 4)]) fun y202=>join (G7 n ff p181 y202 k182) fun k204=>cnd (decide ((List.length (gL y202 0):Int)>0)=true) (Option.bind (gL y202 0)[0]? fun y205=>cnd (okI y205 0) (k204 ([.t (.bool (gI y205 0==cI p181 7 4))],rh p181 0 B6)) none) (k204 ([.t (.bool false)],rh p181 0 B6))) none) none)))))
theorem vC26_4 (n:Nat) (ff:Nat→Rec) (k182:KT) (p181:ST):Dx C (Hk C (pcx C (AA C n)) n ff Dy 8) (pcx C (AA C n)) n 144 [AV.ptr 7 0,AV.ptr 7 4,.t (tI 1),.t (tI (vI p181 3)),AV.agg (tv [tI (aI p181 4 0),tI (aI p181 4 1),tI (aI p181 4 2),tI (aI p181 4 3),tI (aI p181 4 4),.bool (aB p181 4 5),.str (aS p181 4 6),.sl 2 (aL p181 4 7)])] (rh p181 0 IW) (fun rs h1=>cnd (Bj C.P (BD C.P 144) rs=true) (Fc (rh p181 0 IW) h1 fun hs=>k182 (rs,hs)) none)=G4 n ff k182 p181:=by kernel_rfl
theorem Fj (n:Nat) (k182:KT) (p181:ST):W3 n (fI C n) k182 p181=G4 n (fI C n) k182 p181:=(Kl C n Dy 8 _ 144 _ _ _).trans (vC26_4 n (fI C n) k182 p181)
noncomputable def SQ (n:Nat) (ff:Nat→Rec) (k179:KT) (p178 p211:ST):RT:=k179 ([.t (tI (w64 (vI p178 0+1)))],rh p211 0 M0)
noncomputable def IP (n:Nat) (ff:Nat→Rec) (y177:List Tree) (p167:ST) (k175:KT) (p178:ST) (k179:KT):RT:=cnd (decide (vI p178 0<(List.length (gL y177 4):Int))=true) (cnd (8=8∧0≤vI p178 0) (Option.bind (gL y177 4)[Int.toNat (vI p178 0)]? fun y180=>bk kG 0 y180 (join (SQ n ff k179 p178) fun k212=>W3 n ff k212 ([AV.ptr 7 0,AV.ptr 7 4,.t (tI 1),.t (tI (cI p178 7 15)),AV.agg (tv (gt kG y180 0 []))],upd (rh p178 0 IW) [(2,.row true (AE p167 2) 15 (oEs p167 2)),(3,.row true (AE p167 3) 4 (oEs p167 3)),(4,.row true (AE p167 4) 4 (oEs p167 4)),(10,.box (tv (gt kG y180 0 [])))]))) none) (cnd ((!(cB p178 7 36))=true) (bd [1] (AA C n 147 (ct [0,0,5,2] p178 7 31 [])) fun y215=>cnd (gB y215 0=true) (k175 ([],upd (rh p178 0 B7) [(7,.box (upd (rb p178 7 0 A1) [(36,AV.t (Tree.bool true)),(37,.t (tI (cI p178 7 15)))]))])) (k175 ([],rh p178 0 B7))) (k175 ([],rh p178 0 B7)))
noncomputable def PH (n:Nat) (ff:Nat→Rec) (p174:ST) (k173:KT) (p224:ST):RT:=cnd (vB p224 0=true) (cnd (AE p224 8=AE p174 8+1∧8≤8) (Option.bind (oEs p224 8)[0]? fun y226=>k173 ([.rptr 8 (AE p174 8+1) 0 0,.t (.bool false)],upd (rh p224 0 B7) [(8,.row false (AE p174 8+1) 8 (List.set (oEs p224 8) 0 (zt kG []++List.drop 8 y226)))])) none) (bd [0,13,0,0,0,0,0,0,0,0,0,1,2,5,0] (AA C n 158 (ct [0,13,0,0] p224 7 0 [])) fun y227=>cnd (AE p224 8=AE p174 8+1∧8≤8) (Option.bind (oEs p224 8)[0]? fun y228=>k173 ([.rptr 8 (AE p174 8+1) 0 0,.t (.bool true)],upd (rh p224 0 B7) [(7,.box (upd (rb p224 7 0 A1) [(0,.t (tI (gI y227 0))),(1,.t (.sl 10 (gL y227 1))),(2,.t (tI (gI y227 2))),(3,.t (tI (gI y227 3)))])),(8,.row false (AE p174 8+1) 8 (List.set (oEs p224 8) 0 (gt kG y227 6 []++List.drop 8 y228)))])) none)
noncomputable def Mu (n:Nat) (ff:Nat→Rec) (p172:ST) (k173:KT) (p174:ST):RT:=cnd (AE p174 8=Kt p172 0) (Option.bind (oEs p174 8)[0]? fun y222=>bk kG 0 y222 (cnd (AE p174 8+1=AE p174 8+1∧8≤8) (bd [0,1] (AA C n 122 (ct [0,13,0,0] p174 7 0 [])) fun y223=>join (PH n ff p174 k173) fun k225=>cnd ((!(gB y223 1))=true) (k225 ([.t (.bool true)],upd (rh p174 0 KV) [(8,.row false (AE p174 8+1) 8 [[tI (gI y222 0),tI (gI y222 1),tI (gI y222 2),tI (gI y222 3),tI (gI y222 4),.bool (gB y222 5),.str (gS y222 6),.sl 2 (gL y222 7)]]),(9,.box (tv (zt kG [])))])) (k225 ([.t (.bool ((gI y223 0) != cI p174 7 15))],upd (rh p174 0 KV) [(8,.row false (AE p174 8+1) 8 [[tI (gI y222 0),tI (gI y222 1),tI (gI y222 2),tI (gI y222 3),tI (gI y222 4),.bool (gB y222 5),.str (gS y222 6),.sl 2 (gL y222 7)]]),(9,.box (tv (zt kG [])))]))) none)) none
noncomputable def F7 (n:Nat) (ff:Nat→Rec) (p167:ST) (k168:KT) (p172:ST) (k173:KT):RT:=cnd (vB p172 1=true) (join (Mu n ff p172 k173) fun k175=>cnd (AE p172 8=Kt p172 0) (Option.bind (oEs p172 8)[0]? fun y176=>bk kG 0 y176 (bd [0,0,5,2,11,0] (AA C n 146 (ct [0,0,5,2] p172 7 31 (gt kG y176 0 []))) fun y177=>cnd (((gI y177 5) != 0)=true) (k175 ([],rh p172 0 B7)) (AJ (IP n ff y177 p167 k175) n ([.t (tI 0)],upd (rh p172 0 M0) [(7,.box (upd (rb p172 7 0 A1) [(31,.t (tI (gI y177 0))),(32,.t (tI (gI y177 1))),(33,.t (.sl 2 (gL y177 2))),(34,.t (.str (gS y177 3)))])),(9,.box (tv (gt [0,0,5,2] y177 0 [])))])))) none) (k168 ([],rh p172 0 BI))
noncomputable def PG (n:Nat) (ff:Nat→Rec) (p167:ST) (k168:KT) (p170:ST):RT:=cnd (vB p170 0=true) (AJ (F7 n ff p167 k168) n ([.rptr 8 0 0 0,.t (.bool false)],upd (rh p170 0 B7) [(8,.row false 0 8 [[tI 0,tI 0,tI 0,tI 0,tI 0,.bool false,.str B0,.sl 2 []]])])) (bd [0,13,0,0,0,0,0,0,0,0,0,1,2,5,0] (AA C n 158 (ct [0,13,0,0] p170 7 0 [])) fun y229=>AJ (F7 n ff p167 k168) n ([.rptr 8 0 0 0,.t (.bool true)],upd (rh p170 0 B7) [(7,.box (upd (rb p170 7 0 A1) [(0,.t (tI (gI y229 0))),(1,.t (.sl 10 (gL y229 1))),(2,AV.t (tI (gI y229 2))),(3,.t (tI (gI y229 3)))])),(8,.row false 0 8 [[tI (gI y229 6),tI (gI y229 7),tI (gI y229 8),tI (gI y229 9),tI (gI y229 10),.bool (gB y229 11),.str (gS y229 12),.sl 2 (gL y229 13)]])]))
noncomputable def W2 (n:Nat) (ff:Nat→Rec) (k168:KT) (p167:ST):RT:=ff 10 (List Tree) (.fn 125 [AV.ptr 7 0]) (rh p167 0 Bd) fun rs h1=>cnd (Bj C.P (BD C.P 125) rs=true) (Fc (rh p167 0 Bd) h1 fun hs=>k168 (rs,hs)) none
noncomputable def Q8 (n:Nat) (ff:Nat→Rec) (k168:KT) (p167:ST):RT:=bd [0,1] (AA C n 122 (ct [0,13,0,0] p167 7 0 [])) fun y169=>join (PG n ff p167 k168) fun k171=>cnd ((!(gB y169 1))=true) (k171 ([.t (.bool true)],upd (rh p167 0 OF) [(8,.box (tv (zt kG [])))])) (k171 ([.t (.bool ((gI y169 0) != cI p167 7 15))],upd (rh p167 0 OF) [(8,.box (tv (zt kG [])))]))
theorem vC26_5 (n:Nat) (ff:Nat→Rec) (k168:KT) (p167:ST):Dx C (Hk C (pcx C (AA C n)) n ff Dy 9) (pcx C (AA C n)) n 125 [AV.ptr 7 0] (rh p167 0 Bd) (fun rs h1=>cnd (Bj C.P (BD C.P 125) rs=true) (Fc (rh p167 0 Bd) h1 fun hs=>k168 (rs,hs)) none)=Q8 n ff k168 p167:=by kernel_rfl
theorem RG (n:Nat) (k168:KT) (p167:ST):W2 n (fI C n) k168 p167=Q8 n (fI C n) k168 p167:=(Kl C n Dy 9 _ 125 _ _ _).trans (vC26_5 n (fI C n) k168 p167)
noncomputable def DE (n:Nat) (ff:Nat→Rec) (p267:ST) (k268:KT) (y275:List Tree) (p280:ST):RT:=cnd (vB p280 0=true) (Ak (.box [AV.yld 40,.t (tI (cI p267 7 0)),.t (.sl 10 (cL p267 7 1)),.t (tI (cI p267 7 2)),.t (tI (cI p267 7 3))]) (.box [AV.yld 40,.t (tI (cI p280 7 0)),.t (.sl 10 (cL p280 7 1)),.t (tI (cI p280 7 2)),.t (tI (cI p280 7 3))]) (Ak (.box [AV.yld 40,.t (tI (cI p267 7 0))]) (.box [AV.yld 40,.t (tI (cI p280 7 0))]) (Ak (.row false (AE p267 5) 9 (oEs p267 5)) (.row false (AE p280 5) 9 (oEs p280 5)) (Ak (.row false (AE p267 6) 9 (oEs p267 6)) (.row false (AE p280 6) 9 (oEs p280 6)) (Ak (.row false (AE p267 1) 9 (oEs p267 1)) (.row false (AE p280 1) 9 (oEs p280 1)) (bd [0,13,0,0,0] (AA C n 156 (ct [0,13,0,0] p267 7 0 [tI (vI p267 3),tI (aI p267 4 0),tI (aI p267 4 1),tI (aI p267 4 2),tI (aI p267 4 3),tI (aI p267 4 4),.bool (aB p267 4 5),.str (aS p267 4 6),.sl 2 (aL p267 4 7),.sl 1 [[tI (cI p267 7 0)]]])) fun y282=>cnd (((gI y282 4) != 0)=true) (k268 ([],rh p280 0 BI)) (cnd (AE p280 5=AI p280 7 13∧(9=9∨9=0)∧AO p280 7 13+AH p280 7 13≤List.length (oEs p280 5)∧AH p280 7 13+1≤1073741824) (k268 ([],upd (rh p280 0 BI) [(5,.row false (AI p280 7 13+1) 9 (List.take (AH p280 7 13) (List.drop (AO p280 7 13) (oEs p280 5))++[[tI (vI p267 3),tI (aI p267 4 0),tI (aI p267 4 1),tI (aI p267 4 2),tI (aI p267 4 3),tI (aI p267 4 4),Tree.bool (aB p267 4 5),.str (aS p267 4 6),.sl 2 (aL p267 4 7)]])),(7,.box (upd (rb p280 7 0 A1) [(0,.t (tI (gI y282 0))),(1,.t (.sl 10 (gL y282 1))),(2,.t (tI (gI y282 2))),(3,.t (tI (gI y282 3))),(11,.t (tI (w64 (cI p280 7 11+1)))),(13,.sref 5 (AI p280 7 13+1) 0 (AH p280 7 13+1))]))])) none))))))) (Ak (.box [AV.yld 40,.t (tI (cI p267 7 0)),.t (.sl 10 (cL p267 7 1)),.t (tI (cI p267 7 2)),.t (tI (cI p267 7 3))]) (.box [AV.yld 40,.t (tI (cI p280 7 0)),.t (.sl 10 (cL p280 7 1)),.t (tI (cI p280 7 2)),.t (tI (cI p280 7 3))]) (Ak (.box [AV.yld 40,.t (tI (cI p267 7 0))]) (.box [AV.yld 40,.t (tI (cI p280 7 0))]) (Ak (.row false (AE p267 5) 9 (oEs p267 5)) (.row false (AE p280 5) 9 (oEs p280 5)) (Ak (.row false (AE p267 6) 9 (oEs p267 6)) (.row false (AE p280 6) 9 (oEs p280 6)) (Ak (.row false (AE p267 1) 9 (oEs p267 1)) (.row false (AE p280 1) 9 (oEs p280 1)) (bd [0,13,0,0,0] (AA C n 156 (ct [0,13,0,0] p267 7 0 [tI (vI p267 3),tI (aI p267 4 0),tI (aI p267 4 1),tI (aI p267 4 2),tI (aI p267 4 3),tI (aI p267 4 4),.bool (aB p267 4 5),.str (aS p267 4 6),.sl 2 (aL p267 4 7),.sl 1 (gL y275 0)])) fun y283=>cnd (((gI y283 4) != 0)=true) (k268 ([],upd (rh p280 0 BI) [(7,.box (upd (rb p280 7 0 A1) [(12,.t (tI (w64 (cI p280 7 12+1))))]))])) (cnd (AE p280 5=AI p280 7 13∧(9=9∨9=0)∧AO p280 7 13+AH p280 7 13≤List.length (oEs p280 5)∧AH p280 7 13+1≤1073741824) (k268 ([],upd (rh p280 0 BI) [(5,.row false (AI p280 7 13+1) 9 (List.take (AH p280 7 13) (List.drop (AO p280 7 13) (oEs p280 5))++[[tI (vI p267 3),tI (aI p267 4 0),tI (aI p267 4 1),tI (aI p267 4 2),tI (aI p267 4 3),tI (aI p267 4 4),.bool (aB p267 4 5),.str (aS p267 4 6),.sl 2 (aL p267 4 7)]])),(7,.box (upd (rb p280 7 0 A1) [(0,.t (tI (gI y283 0))),(1,.t (.sl 10 (gL y283 1))),(2,.t (tI (gI y283 2))),(3,.t (tI (gI y283 3))),(11,.t (tI (w64 (cI p280 7 11+1)))),(12,.t (tI (w64 (cI p280 7 12+1)))),(13,.sref 5 (AI p280 7 13+1) 0 (AH p280 7 13+1))]))])) none)))))))
noncomputable def G6 (n:Nat) (ff:Nat→Rec) (p267:ST) (y275:List Tree) (k268:KT) (p276:ST):RT:=cnd (vB p276 0=true) (Ak (.box [AV.yld 40,.t (tI (cI p267 7 0)),.t (.sl 10 (cL p267 7 1)),.t (tI (cI p267 7 2)),.t (tI (cI p267 7 3))]) (.box [AV.yld 40,.t (tI (cI p276 7 0)),.t (.sl 10 (cL p276 7 1)),.t (tI (cI p276 7 2)),.t (tI (cI p276 7 3))]) (Ak (.box [AV.yld 40,.t (tI (cI p267 7 0))]) (.box [AV.yld 40,.t (tI (cI p276 7 0))]) (Ak (.row false (AE p267 5) 9 (oEs p267 5)) (.row false (AE p276 5) 9 (oEs p276 5)) (Ak (.row false (AE p267 6) 9 (oEs p267 6)) (.row false (AE p276 6) 9 (oEs p276 6)) (Ak (.row false (AE p267 1) 9 (oEs p267 1)) (.row false (AE p276 1) 9 (oEs p276 1)) (bd [0,13,0,0,0] (AA C n 156 (ct [0,13,0,0] p267 7 0 [tI (vI p267 3),tI (aI p267 4 0),tI (aI p267 4 1),tI (aI p267 4 2),tI (aI p267 4 3),tI (aI p267 4 4),.bool (aB p267 4 5),.str (aS p267 4 6),.sl 2 (aL p267 4 7),.sl 1 (gL y275 0)])) fun y279=>cnd (((gI y279 4) != 0)=true) (k268 ([],rh p276 0 BI)) (cnd (AE p276 5=AI p276 7 13∧(9=9∨9=0)∧AO p276 7 13+AH p276 7 13≤List.length (oEs p276 5)∧AH p276 7 13+1≤1073741824) (k268 ([],upd (rh p276 0 BI) [(5,.row false (AI p276 7 13+1) 9 (List.take (AH p276 7 13) (List.drop (AO p276 7 13) (oEs p276 5))++[[tI (vI p267 3),tI (aI p267 4 0),tI (aI p267 4 1),tI (aI p267 4 2),tI (aI p267 4 3),tI (aI p267 4 4),.bool (aB p267 4 5),.str (aS p267 4 6),.sl 2 (aL p267 4 7)]])),(7,.box (upd (rb p276 7 0 A1) [(0,.t (tI (gI y279 0))),(1,.t (.sl 10 (gL y279 1))),(2,.t (tI (gI y279 2))),(3,.t (tI (gI y279 3))),(11,.t (tI (w64 (cI p276 7 11+1)))),(13,.sref 5 (AI p276 7 13+1) 0 (AH p276 7 13+1))]))])) none))))))) (join (DE n ff p267 k268 y275) fun k281=>cnd (decide (cI p276 7 9≥(0:Int))=true) (k281 ([.t (.bool (decide (cI p276 7 12≥cI p276 7 9)))],rh p276 0 KS)) (k281 ([.t (.bool false)],rh p276 0 KS)))
noncomputable def G5 (n:Nat) (ff:Nat→Rec) (p267:ST) (y288:List Tree) (k268:KT) (p289:ST):RT:=cnd (vB p289 0=true) (Ak (.box [AV.yld 40,.t (tI (cI p267 7 0)),.t (.sl 10 (cL p267 7 1)),.t (tI (cI p267 7 2)),.t (tI (cI p267 7 3))]) (.box [AV.yld 40,.t (tI (cI p289 7 0)),.t (.sl 10 (cL p289 7 1)),.t (tI (cI p289 7 2)),.t (tI (cI p289 7 3))]) (Ak (.box [AV.yld 40,.t (tI (cI p267 7 0))]) (.box [AV.yld 40,.t (tI (cI p289 7 0))]) (Ak (.row false (AE p267 5) 9 (oEs p267 5)) (.row false (AE p289 5) 9 (oEs p289 5)) (Ak (.row false (AE p267 6) 9 (oEs p267 6)) (.row false (AE p289 6) 9 (oEs p289 6)) (Ak (.row false (AE p267 1) 9 (oEs p267 1)) (.row false (AE p289 1) 9 (oEs p289 1)) (bd [0,13,0,0,0] (AA C n 156 (ct [0,13,0,0] p267 7 0 [tI (vI p267 3),tI (aI p267 4 0),tI (aI p267 4 1),tI (aI p267 4 2),tI (aI p267 4 3),tI (aI p267 4 4),.bool (aB p267 4 5),.str (aS p267 4 6),.sl 2 (aL p267 4 7),.sl 1 (gL y288 0)])) fun y292=>cnd (((gI y292 4) != 0)=true) (k268 ([],rh p289 0 BI)) (cnd (AE p289 5=AI p289 7 13∧(9=9∨9=0)∧AO p289 7 13+AH p289 7 13≤List.length (oEs p289 5)∧AH p289 7 13+1≤1073741824) (k268 ([],upd (rh p289 0 BI) [(5,.row false (AI p289 7 13+1) 9 (List.take (AH p289 7 13) (List.drop (AO p289 7 13) (oEs p289 5))++[[tI (vI p267 3),tI (aI p267 4 0),tI (aI p267 4 1),tI (aI p267 4 2),tI (aI p267 4 3),tI (aI p267 4 4),.bool (aB p267 4 5),.str (aS p267 4 6),.sl 2 (aL p267 4 7)]])),(7,.box (upd (rb p289 7 0 A1) [(0,.t (tI (gI y292 0))),(1,.t (.sl 10 (gL y292 1))),(2,.t (tI (gI y292 2))),(3,.t (tI (gI y292 3))),(11,.t (tI (w64 (cI p289 7 11+1)))),(13,.sref 5 (AI p289 7 13+1) 0 (AH p289 7 13+1))]))])) none))))))) (join (DE n ff p267 k268 y288) fun k294=>cnd (decide (cI p289 7 9≥(0:Int))=true) (k294 ([.t (.bool (decide (cI p289 7 12≥cI p289 7 9)))],rh p289 0 BI)) (k294 ([.t (.bool false)],rh p289 0 BI)))
noncomputable def W0 (n:Nat) (ff:Nat→Rec) (k268:KT) (p267:ST):RT:=ff 9 (List Tree) (.fn 144 [AV.ptr 7 0,AV.ptr 7 0,.t (tI 0),.t (tI (vI p267 3)),AV.agg (tv [tI (aI p267 4 0),tI (aI p267 4 1),tI (aI p267 4 2),tI (aI p267 4 3),tI (aI p267 4 4),.bool (aB p267 4 5),.str (aS p267 4 6),.sl 2 (aL p267 4 7)])]) (rh p267 0 Bd) fun rs h1=>cnd (Bj C.P (BD C.P 144) rs=true) (Fc (rh p267 0 Bd) h1 fun hs=>k268 (rs,hs)) none
noncomputable def G3 (n:Nat) (ff:Nat→Rec) (k268:KT) (p267:ST):RT:=cnd (decide (cI p267 7 11≥(10000:Int))=true) (k268 ([],rh p267 0 BI)) (both (bd [1] (AA C n 175 [.sl 2 (cL p267 7 10),tI (vI p267 3)]) fun y271=>cnd (gB y271 0=true) (Ak (.box [AV.yld 40,.t (tI (cI p267 7 0)),.t (.sl 10 (cL p267 7 1)),.t (tI (cI p267 7 2)),.t (tI (cI p267 7 3))]) (.box [AV.yld 40,.t (tI (cI p267 7 0)),.t (.sl 10 (cL p267 7 1)),.t (tI (cI p267 7 2)),.t (tI (cI p267 7 3))]) (Ak (.box [AV.yld 40,.t (tI (cI p267 7 0))]) (.box [AV.yld 40,.t (tI (cI p267 7 0))]) (Ak (.row false (AE p267 5) 9 (oEs p267 5)) (.row false (AE p267 5) 9 (oEs p267 5)) (Ak (.row false (AE p267 6) 9 (oEs p267 6)) (.row false (AE p267 6) 9 (oEs p267 6)) (Ak (.row false (AE p267 1) 9 (oEs p267 1)) (.row false (AE p267 1) 9 (oEs p267 1)) (bd [0,13,0,0,0] (AA C n 156 (ct [0,13,0,0] p267 7 0 [tI (vI p267 3),tI (aI p267 4 0),tI (aI p267 4 1),tI (aI p267 4 2),tI (aI p267 4 3),tI (aI p267 4 4),.bool (aB p267 4 5),.str (aS p267 4 6),.sl 2 (aL p267 4 7),.sl 1 []])) fun y272=>cnd (((gI y272 4) != 0)=true) (k268 ([],rh p267 0 BI)) (cnd (AE p267 5=AI p267 7 13∧(9=9∨9=0)∧AO p267 7 13+AH p267 7 13≤List.length (oEs p267 5)∧AH p267 7 13+1≤1073741824) (k268 ([],upd (rh p267 0 BI) [(5,.row false (AI p267 7 13+1) 9 (List.take (AH p267 7 13) (List.drop (AO p267 7 13) (oEs p267 5))++[[tI (vI p267 3),tI (aI p267 4 0),tI (aI p267 4 1),tI (aI p267 4 2),tI (aI p267 4 3),tI (aI p267 4 4),.bool (aB p267 4 5),.str (aS p267 4 6),.sl 2 (aL p267 4 7)]])),(7,.box (upd (rb p267 7 0 A1) [(0,.t (tI (gI y272 0))),(1,.t (.sl 10 (gL y272 1))),(2,.t (tI (gI y272 2))),(3,.t (tI (gI y272 3))),(11,.t (tI (w64 (cI p267 7 11+1)))),(13,.sref 5 (AI p267 7 13+1) 0 (AH p267 7 13+1))]))])) none))))))) (cnd (((List.length (cL p267 7 8):Int)==0)=true) (Ak (.box [AV.yld 40,.t (tI (cI p267 7 0)),.t (.sl 10 (cL p267 7 1)),.t (tI (cI p267 7 2)),.t (tI (cI p267 7 3))]) (.box [AV.yld 40,.t (tI (cI p267 7 0)),.t (.sl 10 (cL p267 7 1)),.t (tI (cI p267 7 2)),.t (tI (cI p267 7 3))]) (Ak (.box [AV.yld 40,.t (tI (cI p267 7 0))]) (.box [AV.yld 40,.t (tI (cI p267 7 0))]) (Ak (.row false (AE p267 5) 9 (oEs p267 5)) (.row false (AE p267 5) 9 (oEs p267 5)) (Ak (.row false (AE p267 6) 9 (oEs p267 6)) (.row false (AE p267 6) 9 (oEs p267 6)) (Ak (.row false (AE p267 1) 9 (oEs p267 1)) (.row false (AE p267 1) 9 (oEs p267 1)) (bd [0,13,0,0,0] (AA C n 156 (ct [0,13,0,0] p267 7 0 [tI (vI p267 3),tI (aI p267 4 0),tI (aI p267 4 1),tI (aI p267 4 2),tI (aI p267 4 3),tI (aI p267 4 4),.bool (aB p267 4 5),.str (aS p267 4 6),.sl 2 (aL p267 4 7),.sl 1 [[tI (cI p267 7 0)]]])) fun y273=>cnd (((gI y273 4) != 0)=true) (k268 ([],rh p267 0 BI)) (cnd (AE p267 5=AI p267 7 13∧(9=9∨9=0)∧AO p267 7 13+AH p267 7 13≤List.length (oEs p267 5)∧AH p267 7 13+1≤1073741824) (k268 ([],upd (rh p267 0 BI) [(5,.row false (AI p267 7 13+1) 9 (List.take (AH p267 7 13) (List.drop (AO p267 7 13) (oEs p267 5))++[[tI (vI p267 3),tI (aI p267 4 0),tI (aI p267 4 1),tI (aI p267 4 2),tI (aI p267 4 3),tI (aI p267 4 4),.bool (aB p267 4 5),.str (aS p267 4 6),.sl 2 (aL p267 4 7)]])),(7,.box (upd (rb p267 7 0 A1) [(0,.t (tI (gI y273 0))),(1,.t (.sl 10 (gL y273 1))),(2,.t (tI (gI y273 2))),(3,.t (tI (gI y273 3))),(11,.t (tI (w64 (cI p267 7 11+1)))),(13,.sref 5 (AI p267 7 13+1) 0 (AH p267 7 13+1))]))])) none))))))) (cnd ((List.length (cL p267 7 8):Int)=0) none (cnd (1=1∧0≤Int.tmod (cI p267 7 11) (List.length (cL p267 7 8):Int)) (Option.bind (cL p267 7 8)[Int.toNat (Int.tmod (cI p267 7 11) (List.length (cL p267 7 8):Int))]? fun y274=>cnd (okI y274 0) (bd [4,0] (AA C n 176 [tI (gI y274 0),tI (cI p267 7 0)]) fun y275=>join (G6 n ff p267 y275 k268) fun k277=>cnd (decide ((List.length (gL y275 0):Int)>0)=true) (Option.bind (gL y275 0)[0]? fun y278=>cnd (okI y278 0) (k277 ([.t (.bool (gI y278 0==cI p267 7 0))],upd (rh p267 0 KS) [(8,.box (tv (zt [0,13,0,0] [])))])) none) (k277 ([.t (.bool false)],upd (rh p267 0 KS) [(8,.box (tv (zt [0,13,0,0] [])))]))) none) none)))) (bd [1] (AA C n 175 [.sl 2 (cL p267 7 10),tI (vI p267 3)]) fun y284=>cnd (gB y284 0=true) (Ak (.box [AV.yld 40,.t (tI (cI p267 7 0)),.t (.sl 10 (cL p267 7 1)),.t (tI (cI p267 7 2)),.t (tI (cI p267 7 3))]) (.box [AV.yld 40,.t (tI (cI p267 7 0)),.t (.sl 10 (cL p267 7 1)),.t (tI (cI p267 7 2)),.t (tI (cI p267 7 3))]) (Ak (.box [AV.yld 40,.t (tI (cI p267 7 0))]) (.box [AV.yld 40,.t (tI (cI p267 7 0))]) (Ak (.row false (AE p267 5) 9 (oEs p267 5)) (.row false (AE p267 5) 9 (oEs p267 5)) (Ak (.row false (AE p267 6) 9 (oEs p267 6)) (.row false (AE p267 6) 9 (oEs p267 6)) (Ak (.row false (AE p267 1) 9 (oEs p267 1)) (.row false (AE p267 1) 9 (oEs p267 1)) (bd [0,13,0,0,0] (AA C n 156 (ct [0,13,0,0] p267 7 0 [tI (vI p267 3),tI (aI p267 4 0),tI (aI p267 4 1),tI (aI p267 4 2),tI (aI p267 4 3),tI (aI p267 4 4),.bool (aB p267 4 5),.str (aS p267 4 6),.sl 2 (aL p267 4 7),.sl 1 []])) fun y285=>cnd (((gI y285 4) != 0)=true) (k268 ([],rh p267 0 BI)) (cnd (AE p267 5=AI p267 7 13∧(9=9∨9=0)∧AO p267 7 13+AH p267 7 13≤List.length (oEs p267 5)∧AH p267 7 13+1≤1073741824) (k268 ([],upd (rh p267 0 BI) [(5,.row false (AI p267 7 13+1) 9 (List.take (AH p267 7 13) (List.drop (AO p267 7 13) (oEs p267 5))++[[tI (vI p267 3),tI (aI p267 4 0),tI (aI p267 4 1),tI (aI p267 4 2),tI (aI p267 4 3),tI (aI p267 4 4),.bool (aB p267 4 5),.str (aS p267 4 6),.sl 2 (aL p267 4 7)]])),(7,.box (upd (rb p267 7 0 A1) [(0,.t (tI (gI y285 0))),(1,.t (.sl 10 (gL y285 1))),(2,.t (tI (gI y285 2))),(3,.t (tI (gI y285 3))),(11,.t (tI (w64 (cI p267 7 11+1)))),(13,.sref 5 (AI p267 7 13+1) 0 (AH p267 7 13+1))]))])) none))))))) (cnd (((List.length (cL p267 7 8):Int)==0)=true) (Ak (.box [AV.yld 40,.t (tI (cI p267 7 0)),.t (.sl 10 (cL p267 7 1)),.t (tI (cI p267 7 2)),.t (tI (cI p267 7 3))]) (.box [AV.yld 40,.t (tI (cI p267 7 0)),.t (.sl 10 (cL p267 7 1)),.t (tI (cI p267 7 2)),.t (tI (cI p267 7 3))]) (Ak (.box [AV.yld 40,.t (tI (cI p267 7 0))]) (.box [AV.yld 40,.t (tI (cI p267 7 0))]) (Ak (.row false (AE p267 5) 9 (oEs p267 5)) (.row false (AE p267 5) 9 (oEs p267 5)) (Ak (.row false (AE p267 6) 9 (oEs p267 6)) (.row false (AE p267 6) 9 (oEs p267 6)) (Ak (.row false (AE p267 1) 9 (oEs p267 1)) (.row false (AE p267 1) 9 (oEs p267 1)) (bd [0,13,0,0,0] (AA C n 156 (ct [0,13,0,0] p267 7 0 [tI (vI p267 3),tI (aI p267 4 0),tI (aI p267 4 1),tI (aI p267 4 2),tI (aI p267 4 3),tI (aI p267 4 4),.bool (aB p267 4 5),.str (aS p267 4 6),.sl 2 (aL p267 4 7),.sl 1 [[tI (cI p267 7 0)]]])) fun y286=>cnd (((gI y286 4) != 0)=true) (k268 ([],rh p267 0 BI)) (cnd (AE p267 5=AI p267 7 13∧(9=9∨9=0)∧AO p267 7 13+AH p267 7 13≤List.length (oEs p267 5)∧AH p267 7 13+1≤1073741824) (k268 ([],upd (rh p267 0 BI) [(5,.row false (AI p267 7 13+1) 9 (List.take (AH p267 7 13) (List.drop (AO p267 7 13) (oEs p267 5))++[[tI (vI p267 3),tI (aI p267 4 0),tI (aI p267 4 1),tI (aI p267 4 2),tI (aI p267 4 3),tI (aI p267 4 4),.bool (aB p267 4 5),.str (aS p267 4 6),.sl 2 (aL p267 4 7)]])),(7,.box (upd (rb p267 7 0 A1) [(0,.t (tI (gI y286 0))),(1,.t (.sl 10 (gL y286 1))),(2,.t (tI (gI y286 2))),(3,.t (tI (gI y286 3))),(11,.t (tI (w64 (cI p267 7 11+1)))),(13,.sref 5 (AI p267 7 13+1) 0 (AH p267 7 13+1))]))])) none))))))) (cnd ((List.length (cL p267 7 8):Int)=0) none (cnd (1=1∧0≤Int.tmod (cI p267 7 11) (List.length (cL p267 7 8):Int)) (Option.bind (cL p267 7 8)[Int.toNat (Int.tmod (cI p267 7 11) (List.length (cL p267 7 8):Int))]? fun y287=>cnd (okI y287 0) (bd [4,0] (AA C n 176 [tI (gI y287 0),tI (cI p267 7 0)]) fun y288=>join (G5 n ff p267 y288 k268) fun k290=>cnd (decide ((List.length (gL y288 0):Int)>0)=true) (Option.bind (gL y288 0)[0]? fun y291=>cnd (okI y291 0) (k290 ([.t (.bool (gI y291 0==cI p267 7 0))],rh p267 0 BI)) none) (k290 ([.t (.bool false)],rh p267 0 BI))) none) none)))))
theorem vC26_6 (n:Nat) (ff:Nat→Rec) (k268:KT) (p267:ST):Dx C (Hk C (pcx C (AA C n)) n ff Dy 8) (pcx C (AA C n)) n 144 [AV.ptr 7 0,AV.ptr 7 0,.t (tI 0),.t (tI (vI p267 3)),AV.agg (tv [tI (aI p267 4 0),tI (aI p267 4 1),tI (aI p267 4 2),tI (aI p267 4 3),tI (aI p267 4 4),.bool (aB p267 4 5),.str (aS p267 4 6),.sl 2 (aL p267 4 7)])] (rh p267 0 Bd) (fun rs h1=>cnd (Bj C.P (BD C.P 144) rs=true) (Fc (rh p267 0 Bd) h1 fun hs=>k268 (rs,hs)) none)=G3 n ff k268 p267:=by kernel_rfl
theorem Fi (n:Nat) (k268:KT) (p267:ST):W0 n (fI C n) k268 p267=G3 n (fI C n) k268 p267:=(Kl C n Dy 8 _ 144 _ _ _).trans (vC26_6 n (fI C n) k268 p267)
noncomputable def Wp (n:Nat) (ff:Nat→Rec) (k262:KT) (p297:ST):RT:=cnd (AE p297 1=AI p297 7 35∧(9=9∨9=0)) (cnd ((0:Int)≤1∧1≤(AH p297 7 35:Int)) (k262 ([],upd (rh p297 0 BI) [(7,.box (upd (rb p297 7 0 A1) [(35,.sref 1 (AI p297 7 35) (AO p297 7 35+1) (AH p297 7 35-1))]))])) none) none
noncomputable def PF (n:Nat) (ff:Nat→Rec) (k262:KT) (p259:ST) (k260:KT) (p263:ST):RT:=cnd (vB p263 0=true) (cnd (AE p263 1=AI p263 7 35∧9=9∧(0:Int)≤0∧0<(AH p263 7 35:Int)) (cnd (AE p263 1=AI p263 7 35) (cnd (AE p263 1=AI p263 7 35) (Option.bind (oEs p263 1)[AO p263 7 35]? fun y266=>bk kG 1 y266 (join (Wp n ff k262) fun k298=>W0 n ff k298 ([AV.ptr 7 0,AV.ptr 7 0,.t (tI 0),.t (tI (cI p263 7 15)),AV.agg (tv (gt kG y266 1 []))],upd (rh p263 0 Bd) [(2,.row true (AE p259 2) 15 (oEs p259 2)),(3,.row true (AE p259 3) 4 (oEs p259 3)),(4,.row true (AE p259 4) 4 (oEs p259 4))]))) none) none) none) (k260 ([],rh p263 0 BI))
noncomputable def Mr (n:Nat) (ff:Nat→Rec) (p259:ST) (k260:KT) (p261:ST) (k262:KT):RT:=join (PF n ff k262 p259 k260) fun k264=>cnd (AE p261 1=AI p261 7 35) (cnd (decide ((AH p261 7 35:Int)>0)=true) (cnd (AE p261 1=AI p261 7 35∧9=9∧(0:Int)≤0∧0<(AH p261 7 35:Int)) (cnd (AE p261 1=AI p261 7 35) (cnd (AE p261 1=AI p261 7 35) (Option.bind (oEs p261 1)[AO p261 7 35]? fun y265=>cnd (okI y265 0) (k264 ([.t (.bool (gI y265 0==cI p261 7 15))],rh p261 0 BI)) none) none) none) none) (k264 ([.t (.bool false)],rh p261 0 BI))) none
noncomputable def Wz (n:Nat) (ff:Nat→Rec) (k260:KT) (p259:ST):RT:=ff 10 (List Tree) (.fn 124 [AV.ptr 7 0]) (rh p259 0 Bd) fun rs h1=>cnd (Bj C.P (BD C.P 124) rs=true) (Fc (rh p259 0 Bd) h1 fun hs=>k260 (rs,hs)) none
noncomputable def Wc (n:Nat) (ff:Nat→Rec) (k260:KT) (p259:ST):RT:=AJ (Mr n ff p259 k260) n ([],rh p259 0 BI)
theorem vC26_7 (n:Nat) (ff:Nat→Rec) (k260:KT) (p259:ST):Dx C (Hk C (pcx C (AA C n)) n ff Dy 9) (pcx C (AA C n)) n 124 [AV.ptr 7 0] (rh p259 0 Bd) (fun rs h1=>cnd (Bj C.P (BD C.P 124) rs=true) (Fc (rh p259 0 Bd) h1 fun hs=>k260 (rs,hs)) none)=Wc n ff k260 p259:=by kernel_rfl
theorem tC26_7 (n:Nat) (k260:KT) (p259:ST):Wz n (fI C n) k260 p259=Wc n (fI C n) k260 p259:=(Kl C n Dy 9 _ 124 _ _ _).trans (vC26_7 n (fI C n) k260 p259)
noncomputable def Wo (n:Nat) (ff:Nat→Rec) (k85:KT) (p301:ST):RT:=k85 (tv [tI (vI p301 0),.bool (vB p301 1)],rh p301 0 BI)
noncomputable def IN (n:Nat) (ff:Nat→Rec) (p17:ST) (k85:KT) (p86:ST) (k87:KT):RT:=cnd (decide (vI p86 0<4)=true) (cnd (0≤vI p86 0∧vI p86 0<4) (cnd (vI p86 0=(3:Int)) (join (G9 n ff k87 p86) fun k100=>W5 n ff k100 ([AV.ptr 7 0],upd (rh p86 0 Bd) [(2,.row true (AE p17 2) 15 (oEs p17 2)),(3,.row true (AE p17 3) 4 (oEs p17 3)),(4,.row true (AE p17 4) 4 (oEs p17 4))])) (cnd (vI p86 0=(2:Int)) (join (G9 n ff k87 p86) fun k166=>W4 n ff k166 ([AV.ptr 7 0],upd (rh p86 0 Bd) [(2,.row true (AE p17 2) 15 (oEs p17 2)),(3,.row true (AE p17 3) 4 (oEs p17 3)),(4,.row true (AE p17 4) 4 (oEs p17 4))])) (cnd (vI p86 0=(1:Int)) (join (G9 n ff k87 p86) fun k258=>W2 n ff k258 ([AV.ptr 7 0],upd (rh p86 0 Bd) [(2,.row true (AE p17 2) 15 (oEs p17 2)),(3,.row true (AE p17 3) 4 (oEs p17 3)),(4,.row true (AE p17 4) 4 (oEs p17 4))])) (cnd (vI p86 0=(0:Int)) (join (G9 n ff k87 p86) fun k300=>Wz n ff k300 ([AV.ptr 7 0],upd (rh p86 0 Bd) [(2,.row true (AE p17 2) 15 (oEs p17 2)),(3,.row true (AE p17 3) 4 (oEs p17 3)),(4,.row true (AE p17 4) 4 (oEs p17 4))])) none)))) none) (join (Wo n ff k85) fun k302=>Tt n ff k302 ([AV.ptr 7 0],upd (rh p86 0 Bd) [(2,.row true (AE p17 2) 15 (oEs p17 2)),(3,.row true (AE p17 3) 4 (oEs p17 3)),(4,.row true (AE p17 4) 4 (oEs p17 4))]))
noncomputable def Mq (n:Nat) (ff:Nat→Rec) (p17:ST) (k18:KT) (p84:ST) (k85:KT):RT:=cnd (vB p84 1=true) (AJ (IN n ff p17 k85) n ([.t (tI 0)],upd (rh p84 0 BI) [(7,.box (upd (rb p84 7 0 A1) [(15,.t (tI (vI p84 0)))]))])) (k18 ([],rh p84 0 BI))
noncomputable def Wn (n:Nat) (ff:Nat→Rec) (p17:ST) (k18:KT) (p82:ST):RT:=AJ (Mq n ff p17 k18) n (tv [tI (vI p82 0),.bool (vB p82 1)],rh p82 0 BI)
noncomputable def Ts (n:Nat) (ff:Nat→Rec) (k18:KT) (p17:ST):RT:=ff 11 (List Tree) (.fn 71 [AV.ptr 7 0]) (rh p17 0 Bd) fun rs h1=>cnd (Bj C.P (BD C.P 71) rs=true) (Fc (rh p17 0 Bd) h1 fun hs=>k18 (rs,hs)) none
noncomputable def Wb (n:Nat) (ff:Nat→Rec) (k18:KT) (p17:ST):RT:=join (Wn n ff p17 k18) fun k83=>Tt n ff k83 ([AV.ptr 7 0],rh p17 0 Bd)
theorem vC26_8 (n:Nat) (ff:Nat→Rec) (k18:KT) (p17:ST):Dx C (Hk C (pcx C (AA C n)) n ff Dy 10) (pcx C (AA C n)) n 71 [AV.ptr 7 0] (rh p17 0 Bd) (fun rs h1=>cnd (Bj C.P (BD C.P 71) rs=true) (Fc (rh p17 0 Bd) h1 fun hs=>k18 (rs,hs)) none)=Wb n ff k18 p17:=by kernel_rfl
theorem tC26_8 (n:Nat) (k18:KT) (p17:ST):Ts n (fI C n) k18 p17=Wb n (fI C n) k18 p17:=(Kl C n Dy 10 _ 71 _ _ _).trans (vC26_8 n (fI C n) k18 p17)
noncomputable def SP (n:Nat) (ff:Nat→Rec) (p303:ST):RT:=some (ct [1,0,1,0] p303 7 36 [tI (cI p303 7 26),tI (cI p303 7 11),tI (w64 (cI p303 7 3+cI p303 7 7)),tI 0])
theorem v26 (n:Nat) (ff:Nat→Rec) (a0 a1 a2 a3 a4 a5 a6 a7 a8:Int) (a9:ByteArray) (a10:TT) (a11:Int) (a12:TT):Ke C (Hk C (pcx C (AA C n)) n ff Dy C.depth) (pcx C (AA C n)) n 26 [tI a0,tI a1,tI a2,tI a3,tI a4,tI a5,tI a6,tI a7,tI a8,.str a9,.sl 1 a10,tI a11,.sl 2 a12]=cnd (decide ((List.length a10:Int)>1000)=true) (some (zt [1,0,1,0,0,0,0] [tI 4])) (cnd (decide (a11<(-1))=true) (some (zt [1,0,1,0,0,0,0] [tI 2])) (bd [0] (AA C n 67 [.sl 2 a12]) fun y13=>cnd (((gI y13 0) != 0)=true) (some (zt [1,0,1,0,0,0,0] [tI 1])) (bd [0,0,0,0,0,0,0,0,2,0,0,0,5,0,0,12,0] (AA C n 2004367 [tI a0,tI a1,tI a2,tI a3,tI a4,tI a5,tI a6,tI 0,.str a9,tI a7,tI a8]) fun y14=>cnd (((gI y14 16) != 0)=true) (cnd (((gI y14 16) != 0)=true) (some (zt [1,0,1,0,0,0,0] [tI (gI y14 16)])) none) (bd [0,13,0,0,0] (AA C n 69 [tI a5]) fun y15=>bd [0,0,5,2,0] (AA C n 70 [tI 0]) fun y16=>join (SP n ff) fun k304=>Ts n ff k304 ([AV.ptr 7 0],[.box (tv (zt [1,0,1,0,0,0,0] [])),.row false 0 9 (gL y14 15),.row true 0 15 [[tI (gI y14 0),tI (gI y14 1),tI (gI y14 2),tI (gI y14 3),tI (gI y14 4),tI (gI y14 5),tI (gI y14 6),tI (gI y14 7),.str (gS y14 8),tI (gI y14 9),tI (gI y14 10),tI (gI y14 11),.sl 2 (gL y14 12),tI (gI y14 13),tI (gI y14 14)]],.row true 0 4 [[tI (gI y15 0),.sl 10 (gL y15 1),tI (gI y15 2),tI (gI y15 3)]],.row true 0 4 [[tI (gI y16 0),tI (gI y16 1),.sl 2 (gL y16 2),.str (gS y16 3)]],.row false 0 9 [],.row false 0 9 [],.box [.t (tI (gI y15 0)),.t (.sl 10 (gL y15 1)),.t (tI (gI y15 2)),.t (tI (gI y15 3)),.t (tI (gI y15 0)),.t (.sl 10 (gL y15 1)),.t (tI (gI y15 2)),.t (tI (gI y15 3)),.t (.sl 1 a10),.t (tI a11),.t (.sl 2 a12),.t (tI 0),.t (tI 0),.sref 5 0 0 0,.sref 6 0 0 0,.t (tI 0),.t (tI (gI y14 0)),.t (tI (gI y14 1)),.t (tI (gI y14 2)),.t (tI (gI y14 3)),.t (tI (gI y14 4)),.t (tI (gI y14 5)),.t (tI (gI y14 6)),.t (tI (gI y14 7)),.t (.str (gS y14 8)),.t (tI (gI y14 9)),.t (tI (gI y14 10)),.t (tI (gI y14 11)),.t (.sl 2 (gL y14 12)),.t (tI (gI y14 13)),.t (tI (gI y14 14)),.t (tI (gI y16 0)),.t (tI (gI y16 1)),.t (.sl 2 (gL y16 2)),.t (.str (gS y16 3)),.sref 1 0 0 (List.length (gL y14 15)),.t (.bool false),.t (tI 0),.t (.bool false),.t (tI 0)]]))))):=by kernel_rfl
theorem u26 (a0:Int) (a1:Int) (a2:Int) (a3:Int) (a4:Int) (a5:Int) (a6:Int) (a7:Int) (a8:Int) (a9:ByteArray) (a10:List (List Tree)) (a11:Int) (a12:List (List Tree)):C.ext 26 [tI a0,tI a1,tI a2,tI a3,tI a4,tI a5,tI a6,tI a7,tI a8,.str a9,.sl 1 a10,tI a11,.sl 2 a12]=none:=by kernel_rfl
theorem e26 (n:Nat) (a0 a1 a2 a3 a4 a5 a6 a7 a8:Int) (a9:ByteArray) (a10:TT) (a11:Int) (a12:TT):AA C (n+1) 26 [tI a0,tI a1,tI a2,tI a3,tI a4,tI a5,tI a6,tI a7,tI a8,.str a9,.sl 1 a10,tI a11,.sl 2 a12]=cnd (decide ((List.length a10:Int)>1000)=true) (some (zt [1,0,1,0,0,0,0] [tI 4])) (cnd (decide (a11<(-1))=true) (some (zt [1,0,1,0,0,0,0] [tI 2])) (bd [0] (AA C n 67 [.sl 2 a12]) fun y13=>cnd (((gI y13 0) != 0)=true) (some (zt [1,0,1,0,0,0,0] [tI 1])) (bd [0,0,0,0,0,0,0,0,2,0,0,0,5,0,0,12,0] (AA C n 2004367 [tI a0,tI a1,tI a2,tI a3,tI a4,tI a5,tI a6,tI 0,.str a9,tI a7,tI a8]) fun y14=>cnd (((gI y14 16) != 0)=true) (cnd (((gI y14 16) != 0)=true) (some (zt [1,0,1,0,0,0,0] [tI (gI y14 16)])) none) (bd [0,13,0,0,0] (AA C n 69 [tI a5]) fun y15=>bd [0,0,5,2,0] (AA C n 70 [tI 0]) fun y16=>join (fun (p303:ST)=>SP n (fI C n) p303) fun k304=>Ts n (fI C n) k304 ([AV.ptr 7 0],[.box (tv (zt [1,0,1,0,0,0,0] [])),.row false 0 9 (gL y14 15),.row true 0 15 [[tI (gI y14 0),tI (gI y14 1),tI (gI y14 2),tI (gI y14 3),tI (gI y14 4),tI (gI y14 5),tI (gI y14 6),tI (gI y14 7),.str (gS y14 8),tI (gI y14 9),tI (gI y14 10),tI (gI y14 11),.sl 2 (gL y14 12),tI (gI y14 13),tI (gI y14 14)]],.row true 0 4 [[tI (gI y15 0),.sl 10 (gL y15 1),tI (gI y15 2),tI (gI y15 3)]],.row true 0 4 [[tI (gI y16 0),tI (gI y16 1),.sl 2 (gL y16 2),.str (gS y16 3)]],.row false 0 9 [],.row false 0 9 [],.box [.t (tI (gI y15 0)),.t (.sl 10 (gL y15 1)),.t (tI (gI y15 2)),.t (tI (gI y15 3)),.t (tI (gI y15 0)),.t (.sl 10 (gL y15 1)),.t (tI (gI y15 2)),.t (tI (gI y15 3)),.t (.sl 1 a10),.t (tI a11),.t (.sl 2 a12),.t (tI 0),.t (tI 0),.sref 5 0 0 0,.sref 6 0 0 0,.t (tI 0),.t (tI (gI y14 0)),.t (tI (gI y14 1)),.t (tI (gI y14 2)),.t (tI (gI y14 3)),.t (tI (gI y14 4)),.t (tI (gI y14 5)),.t (tI (gI y14 6)),.t (tI (gI y14 7)),.t (.str (gS y14 8)),.t (tI (gI y14 9)),.t (tI (gI y14 10)),.t (tI (gI y14 11)),.t (.sl 2 (gL y14 12)),.t (tI (gI y14 13)),.t (tI (gI y14 14)),.t (tI (gI y16 0)),.t (tI (gI y16 1)),.t (.sl 2 (gL y16 2)),.t (.str (gS y16 3)),.sref 1 0 0 (List.length (gL y14 15)),.t (.bool false),.t (tI 0),.t (.bool false),.t (tI 0)]]))))):=(SD C n 26 _ (by decide) (u26 a0 a1 a2 a3 a4 a5 a6 a7 a8 a9 a10 a11 a12)).trans ((pureO C n Dy 26 _).symm.trans (v26 n (fI C n) a0 a1 a2 a3 a4 a5 a6 a7 a8 a9 a10 a11 a12))
end Ab
set_option linter.unusedVariables false
set_option linter.unusedSimpArgs false
set_option maxRecDepth 100000
namespace Ab
open Go
def AX (g:Gh) (s:Ses):List AV:=[.t (tI s.dat.rng),.t (.sl 10 (s.dat.frames.map Frame.enc)),.t (tI s.dat.sent),.t (tI s.dat.lost),.t (tI s.rep.rng),.t (.sl 10 (s.rep.frames.map Frame.enc)),.t (tI s.rep.sent),.t (tI s.rep.lost),.t (.sl 1 (s.picks.map Cn)),.t (tI s.limit),.t (.sl 2 (s.dark.map Span.enc)),.t (tI s.entered),.t (tI s.dist),.sref 5 g.v4 0 s.sent.length,.sref 6 g.v5 0 s.told.length,.t (tI s.now),.t (tI s.snd.c.frm),.t (tI s.snd.c.dst),.t (tI s.snd.c.start),.t (tI s.snd.c.fin),.t (tI s.snd.c.rate),.t (tI s.snd.c.rng),.t (tI s.snd.c.loss),.t (tI s.snd.ses),.t (.str s.snd.data),.t (tI s.snd.fin),.t (tI s.snd.busy),.t (tI s.snd.ser),.t (.sl 2 (s.snd.acked.map Span.enc)),.t (tI s.snd.due),.t (tI s.snd.st),.t (tI s.rcv.ses),.t (tI s.rcv.tot),.t (.sl 2 (s.rcv.known.map Span.enc)),.t (.str s.rcv.data),.sref 1 g.v0 g.pre.length s.pend.length,.t (.bool s.rcvd),.t (tI s.arrive),.t (.bool s.kno),.t (tI s.knoAt)]
def AP (f1 f2 f3:AG) (v0:Nat) (e0:List (List Tree)) (v4:Nat) (e4:List (List Tree)) (v5:Nat) (e5:List (List Tree)) (c:List AV) (tl:Heap):Heap:=
 .box [.t (.bool false),.t (tI 0),.t (.bool false),.t (tI 0),.t (tI 0),.t (tI 0),.t (tI 0)] :: .row false v0 9 e0::f1::f2::f3 :: .row false v4 9 e4 :: .row false v5 9 e5 :: .box c::tl
def H26 (f1 f2 f3:AG) (g:Gh) (s:Ses) (tl:Heap):Heap:=AP f1 f2 f3 g.v0 (g.pre++s.pend.map Out.enc) g.v4 (s.sent.map Out.enc) g.v5 (s.told.map Out.enc) (AX g s) tl
theorem rd26 :
 (∀(e:List AV) (f1 f2 f3:AG) (v0:Nat) (e0:List (List Tree)) (v4:Nat) (e4:List (List Tree)) (v5:Nat) (e5:List (List Tree)) (g:Gh) (s:Ses) (tl:Heap),
  cI (e,AP f1 f2 f3 v0 e0 v4 e4 v5 e5 (AX g s) tl) 7 0=s.dat.rng∧
  cL (e,AP f1 f2 f3 v0 e0 v4 e4 v5 e5 (AX g s) tl) 7 1=s.dat.frames.map Frame.enc∧
  cI (e,AP f1 f2 f3 v0 e0 v4 e4 v5 e5 (AX g s) tl) 7 2=s.dat.sent∧
  cI (e,AP f1 f2 f3 v0 e0 v4 e4 v5 e5 (AX g s) tl) 7 3=s.dat.lost∧
  cI (e,AP f1 f2 f3 v0 e0 v4 e4 v5 e5 (AX g s) tl) 7 4=s.rep.rng∧
  cL (e,AP f1 f2 f3 v0 e0 v4 e4 v5 e5 (AX g s) tl) 7 5=s.rep.frames.map Frame.enc∧
  cI (e,AP f1 f2 f3 v0 e0 v4 e4 v5 e5 (AX g s) tl) 7 6=s.rep.sent∧
  cI (e,AP f1 f2 f3 v0 e0 v4 e4 v5 e5 (AX g s) tl) 7 7=s.rep.lost∧
  cL (e,AP f1 f2 f3 v0 e0 v4 e4 v5 e5 (AX g s) tl) 7 8=s.picks.map Cn∧
  cI (e,AP f1 f2 f3 v0 e0 v4 e4 v5 e5 (AX g s) tl) 7 9=s.limit∧
  cL (e,AP f1 f2 f3 v0 e0 v4 e4 v5 e5 (AX g s) tl) 7 10=s.dark.map Span.enc∧
  cI (e,AP f1 f2 f3 v0 e0 v4 e4 v5 e5 (AX g s) tl) 7 11=s.entered∧
  cI (e,AP f1 f2 f3 v0 e0 v4 e4 v5 e5 (AX g s) tl) 7 12=s.dist∧
  AI (e,AP f1 f2 f3 v0 e0 v4 e4 v5 e5 (AX g s) tl) 7 13=g.v4∧
  AO (e,AP f1 f2 f3 v0 e0 v4 e4 v5 e5 (AX g s) tl) 7 13=0∧
  AH (e,AP f1 f2 f3 v0 e0 v4 e4 v5 e5 (AX g s) tl) 7 13=s.sent.length∧
  AI (e,AP f1 f2 f3 v0 e0 v4 e4 v5 e5 (AX g s) tl) 7 14=g.v5∧
  AO (e,AP f1 f2 f3 v0 e0 v4 e4 v5 e5 (AX g s) tl) 7 14=0∧
  AH (e,AP f1 f2 f3 v0 e0 v4 e4 v5 e5 (AX g s) tl) 7 14=s.told.length∧
  cI (e,AP f1 f2 f3 v0 e0 v4 e4 v5 e5 (AX g s) tl) 7 15=s.now∧
  cI (e,AP f1 f2 f3 v0 e0 v4 e4 v5 e5 (AX g s) tl) 7 16=s.snd.c.frm∧
  cI (e,AP f1 f2 f3 v0 e0 v4 e4 v5 e5 (AX g s) tl) 7 17=s.snd.c.dst∧
  cI (e,AP f1 f2 f3 v0 e0 v4 e4 v5 e5 (AX g s) tl) 7 18=s.snd.c.start∧
  cI (e,AP f1 f2 f3 v0 e0 v4 e4 v5 e5 (AX g s) tl) 7 19=s.snd.c.fin∧
  cI (e,AP f1 f2 f3 v0 e0 v4 e4 v5 e5 (AX g s) tl) 7 20=s.snd.c.rate∧
  cI (e,AP f1 f2 f3 v0 e0 v4 e4 v5 e5 (AX g s) tl) 7 21=s.snd.c.rng∧
  cI (e,AP f1 f2 f3 v0 e0 v4 e4 v5 e5 (AX g s) tl) 7 22=s.snd.c.loss∧
  cI (e,AP f1 f2 f3 v0 e0 v4 e4 v5 e5 (AX g s) tl) 7 23=s.snd.ses∧
  cS (e,AP f1 f2 f3 v0 e0 v4 e4 v5 e5 (AX g s) tl) 7 24=s.snd.data∧
  cI (e,AP f1 f2 f3 v0 e0 v4 e4 v5 e5 (AX g s) tl) 7 25=s.snd.fin∧
  cI (e,AP f1 f2 f3 v0 e0 v4 e4 v5 e5 (AX g s) tl) 7 26=s.snd.busy∧
  cI (e,AP f1 f2 f3 v0 e0 v4 e4 v5 e5 (AX g s) tl) 7 27=s.snd.ser∧
  cL (e,AP f1 f2 f3 v0 e0 v4 e4 v5 e5 (AX g s) tl) 7 28=s.snd.acked.map Span.enc∧
  cI (e,AP f1 f2 f3 v0 e0 v4 e4 v5 e5 (AX g s) tl) 7 29=s.snd.due∧
  cI (e,AP f1 f2 f3 v0 e0 v4 e4 v5 e5 (AX g s) tl) 7 30=s.snd.st∧
  cI (e,AP f1 f2 f3 v0 e0 v4 e4 v5 e5 (AX g s) tl) 7 31=s.rcv.ses∧
  cI (e,AP f1 f2 f3 v0 e0 v4 e4 v5 e5 (AX g s) tl) 7 32=s.rcv.tot∧
  cL (e,AP f1 f2 f3 v0 e0 v4 e4 v5 e5 (AX g s) tl) 7 33=s.rcv.known.map Span.enc∧
  cS (e,AP f1 f2 f3 v0 e0 v4 e4 v5 e5 (AX g s) tl) 7 34=s.rcv.data∧
  AI (e,AP f1 f2 f3 v0 e0 v4 e4 v5 e5 (AX g s) tl) 7 35=g.v0∧
  AO (e,AP f1 f2 f3 v0 e0 v4 e4 v5 e5 (AX g s) tl) 7 35=g.pre.length∧
  AH (e,AP f1 f2 f3 v0 e0 v4 e4 v5 e5 (AX g s) tl) 7 35=s.pend.length∧
  cB (e,AP f1 f2 f3 v0 e0 v4 e4 v5 e5 (AX g s) tl) 7 36=s.rcvd∧
  cI (e,AP f1 f2 f3 v0 e0 v4 e4 v5 e5 (AX g s) tl) 7 37=s.arrive∧
  cB (e,AP f1 f2 f3 v0 e0 v4 e4 v5 e5 (AX g s) tl) 7 38=s.kno∧
  cI (e,AP f1 f2 f3 v0 e0 v4 e4 v5 e5 (AX g s) tl) 7 39=s.knoAt)∧
 (∀(e:List AV) (f1 f2 f3:AG) (v0:Nat) (e0:List (List Tree)) (v4:Nat) (e4:List (List Tree)) (v5:Nat) (e5:List (List Tree)) (c:List AV) (tl:Heap),
  AE (e,AP f1 f2 f3 v0 e0 v4 e4 v5 e5 c tl) 1=v0∧
  oEs (e,AP f1 f2 f3 v0 e0 v4 e4 v5 e5 c tl) 1=e0∧
  AE (e,AP f1 f2 f3 v0 e0 v4 e4 v5 e5 c tl) 5=v4∧
  oEs (e,AP f1 f2 f3 v0 e0 v4 e4 v5 e5 c tl) 5=e4∧
  AE (e,AP f1 f2 f3 v0 e0 v4 e4 v5 e5 c tl) 6=v5∧
  oEs (e,AP f1 f2 f3 v0 e0 v4 e4 v5 e5 c tl) 6=e5∧
  AE (e,AP f1 f2 f3 v0 e0 v4 e4 v5 e5 c tl) 2=AG.ver f1∧
  oEs (e,AP f1 f2 f3 v0 e0 v4 e4 v5 e5 c tl) 2=Ba f1∧
  AE (e,AP f1 f2 f3 v0 e0 v4 e4 v5 e5 c tl) 3=AG.ver f2∧
  oEs (e,AP f1 f2 f3 v0 e0 v4 e4 v5 e5 c tl) 3=Ba f2∧
  AE (e,AP f1 f2 f3 v0 e0 v4 e4 v5 e5 c tl) 4=AG.ver f3∧
  oEs (e,AP f1 f2 f3 v0 e0 v4 e4 v5 e5 c tl) 4=Ba f3)∧
 (∀(e:List AV) (f1 f2 f3:AG) (v0:Nat) (e0:List (List Tree)) (v4:Nat) (e4:List (List Tree)) (v5:Nat) (e5:List (List Tree)) (c:List AV) (o0:AG) (tl:Heap),
  AE (e,AP f1 f2 f3 v0 e0 v4 e4 v5 e5 c (o0::tl)) 8=AG.ver o0∧
  oEs (e,AP f1 f2 f3 v0 e0 v4 e4 v5 e5 c (o0::tl)) 8=Ba o0)∧
 (∀(e:List AV) (f1 f2 f3:AG) (v0:Nat) (e0:List (List Tree)) (v4:Nat) (e4:List (List Tree)) (v5:Nat) (e5:List (List Tree)) (c:List AV) (o0:AG) (tl:Heap) (j:Nat),
  cI (e,AP f1 f2 f3 v0 e0 v4 e4 v5 e5 c (o0::tl)) 8 j=intOf (AF (cellOf o0 j))∧
  cB (e,AP f1 f2 f3 v0 e0 v4 e4 v5 e5 c (o0::tl)) 8 j=Ax (AF (cellOf o0 j))∧
  cS (e,AP f1 f2 f3 v0 e0 v4 e4 v5 e5 c (o0::tl)) 8 j=strOf (AF (cellOf o0 j))∧
  cL (e,AP f1 f2 f3 v0 e0 v4 e4 v5 e5 c (o0::tl)) 8 j=CM (AF (cellOf o0 j)))∧
 (∀(e:List AV) (f1 f2 f3:AG) (v0:Nat) (e0:List (List Tree)) (v4:Nat) (e4:List (List Tree)) (v5:Nat) (e5:List (List Tree)) (c:List AV) (o0 o1:AG) (tl:Heap),
  AE (e,AP f1 f2 f3 v0 e0 v4 e4 v5 e5 c (o0::o1::tl)) 9=AG.ver o1∧
  oEs (e,AP f1 f2 f3 v0 e0 v4 e4 v5 e5 c (o0::o1::tl)) 9=Ba o1)∧
 (∀(e:List AV) (f1 f2 f3:AG) (v0:Nat) (e0:List (List Tree)) (v4:Nat) (e4:List (List Tree)) (v5:Nat) (e5:List (List Tree)) (c:List AV) (o0 o1:AG) (tl:Heap) (j:Nat),
  cI (e,AP f1 f2 f3 v0 e0 v4 e4 v5 e5 c (o0::o1::tl)) 9 j=intOf (AF (cellOf o1 j))∧
  cB (e,AP f1 f2 f3 v0 e0 v4 e4 v5 e5 c (o0::o1::tl)) 9 j=Ax (AF (cellOf o1 j))∧
  cS (e,AP f1 f2 f3 v0 e0 v4 e4 v5 e5 c (o0::o1::tl)) 9 j=strOf (AF (cellOf o1 j))∧
  cL (e,AP f1 f2 f3 v0 e0 v4 e4 v5 e5 c (o0::o1::tl)) 9 j=CM (AF (cellOf o1 j)))∧
 (∀(e:List AV) (f1 f2 f3:AG) (v0:Nat) (e0:List (List Tree)) (v4:Nat) (e4:List (List Tree)) (v5:Nat) (e5:List (List Tree)) (c:List AV) (o0 o1 o2:AG) (tl:Heap),
  AE (e,AP f1 f2 f3 v0 e0 v4 e4 v5 e5 c (o0::o1::o2::tl)) 10=AG.ver o2∧
  oEs (e,AP f1 f2 f3 v0 e0 v4 e4 v5 e5 c (o0::o1::o2::tl)) 10=Ba o2)∧
 (∀(e:List AV) (f1 f2 f3:AG) (v0:Nat) (e0:List (List Tree)) (v4:Nat) (e4:List (List Tree)) (v5:Nat) (e5:List (List Tree)) (c:List AV) (o0 o1 o2:AG) (tl:Heap) (j:Nat),
  cI (e,AP f1 f2 f3 v0 e0 v4 e4 v5 e5 c (o0::o1::o2::tl)) 10 j=intOf (AF (cellOf o2 j))∧
  cB (e,AP f1 f2 f3 v0 e0 v4 e4 v5 e5 c (o0::o1::o2::tl)) 10 j=Ax (AF (cellOf o2 j))∧
  cS (e,AP f1 f2 f3 v0 e0 v4 e4 v5 e5 c (o0::o1::o2::tl)) 10 j=strOf (AF (cellOf o2 j))∧
  cL (e,AP f1 f2 f3 v0 e0 v4 e4 v5 e5 c (o0::o1::o2::tl)) 10 j=CM (AF (cellOf o2 j)))∧
 (∀(e:List AV) (f1 f2 f3:AG) (v0:Nat) (e0:List (List Tree)) (v4:Nat) (e4:List (List Tree)) (v5:Nat) (e5:List (List Tree)) (c:List AV) (o0 o1 o2 o3:AG) (tl:Heap),
  AE (e,AP f1 f2 f3 v0 e0 v4 e4 v5 e5 c (o0::o1::o2::o3::tl)) 11=AG.ver o3∧
  oEs (e,AP f1 f2 f3 v0 e0 v4 e4 v5 e5 c (o0::o1::o2::o3::tl)) 11=Ba o3)∧
 (∀(e:List AV) (f1 f2 f3:AG) (v0:Nat) (e0:List (List Tree)) (v4:Nat) (e4:List (List Tree)) (v5:Nat) (e5:List (List Tree)) (c:List AV) (o0 o1 o2 o3:AG) (tl:Heap) (j:Nat),
  cI (e,AP f1 f2 f3 v0 e0 v4 e4 v5 e5 c (o0::o1::o2::o3::tl)) 11 j=intOf (AF (cellOf o3 j))∧
  cB (e,AP f1 f2 f3 v0 e0 v4 e4 v5 e5 c (o0::o1::o2::o3::tl)) 11 j=Ax (AF (cellOf o3 j))∧
  cS (e,AP f1 f2 f3 v0 e0 v4 e4 v5 e5 c (o0::o1::o2::o3::tl)) 11 j=strOf (AF (cellOf o3 j))∧
  cL (e,AP f1 f2 f3 v0 e0 v4 e4 v5 e5 c (o0::o1::o2::o3::tl)) 11 j=CM (AF (cellOf o3 j)))∧
 (∀(e:List AV) (f1 f2 f3:AG) (v0:Nat) (e0:List (List Tree)) (v4:Nat) (e4:List (List Tree)) (v5:Nat) (e5:List (List Tree)) (c:List AV) (o0 o1 o2 o3 o4:AG) (tl:Heap),
  AE (e,AP f1 f2 f3 v0 e0 v4 e4 v5 e5 c (o0::o1::o2::o3::o4::tl)) 12=AG.ver o4∧
  oEs (e,AP f1 f2 f3 v0 e0 v4 e4 v5 e5 c (o0::o1::o2::o3::o4::tl)) 12=Ba o4)∧
 (∀(e:List AV) (f1 f2 f3:AG) (v0:Nat) (e0:List (List Tree)) (v4:Nat) (e4:List (List Tree)) (v5:Nat) (e5:List (List Tree)) (c:List AV) (o0 o1 o2 o3 o4:AG) (tl:Heap) (j:Nat),
  cI (e,AP f1 f2 f3 v0 e0 v4 e4 v5 e5 c (o0::o1::o2::o3::o4::tl)) 12 j=intOf (AF (cellOf o4 j))∧
  cB (e,AP f1 f2 f3 v0 e0 v4 e4 v5 e5 c (o0::o1::o2::o3::o4::tl)) 12 j=Ax (AF (cellOf o4 j))∧
  cS (e,AP f1 f2 f3 v0 e0 v4 e4 v5 e5 c (o0::o1::o2::o3::o4::tl)) 12 j=strOf (AF (cellOf o4 j))∧
  cL (e,AP f1 f2 f3 v0 e0 v4 e4 v5 e5 c (o0::o1::o2::o3::o4::tl)) 12 j=CM (AF (cellOf o4 j))):=by
 refine ⟨?_,?_,?_,?_,?_,?_,?_,?_,?_,?_,?_,?_⟩
 ·intros;exact ⟨rfl,rfl,rfl,rfl,rfl,rfl,rfl,rfl,rfl,rfl,rfl,rfl,rfl,rfl,rfl,rfl,rfl,rfl,rfl,rfl,rfl,rfl,rfl,rfl,rfl,rfl,rfl,rfl,rfl,rfl,rfl,rfl,rfl,rfl,rfl,rfl,rfl,rfl,rfl,rfl,rfl,rfl,rfl,rfl,rfl,rfl⟩
 ·intros;exact ⟨rfl,rfl,rfl,rfl,rfl,rfl,rfl,rfl,rfl,rfl,rfl,rfl⟩
 ·intros;exact ⟨rfl,rfl⟩
 ·intros;exact ⟨rfl,rfl,rfl,rfl⟩
 ·intros;exact ⟨rfl,rfl⟩
 ·intros;exact ⟨rfl,rfl,rfl,rfl⟩
 ·intros;exact ⟨rfl,rfl⟩
 ·intros;exact ⟨rfl,rfl,rfl,rfl⟩
 ·intros;exact ⟨rfl,rfl⟩
 ·intros;exact ⟨rfl,rfl,rfl,rfl⟩
 ·intros;exact ⟨rfl,rfl⟩
 ·intros;exact ⟨rfl,rfl,rfl,rfl⟩
variable (e:List AV) (g:Gh) (s:Ses) (f1 f2 f3:AG) (v0:Nat) (e0:List (List Tree)) (v4:Nat) (e4:List (List Tree)) (v5:Nat) (e5:List (List Tree))
theorem VS (tl:Heap):rh (e,AP f1 f2 f3 v0 e0 v4 e4 v5 e5 (AX g s) (tl)) 0 BI=AP E0 E0 E0 v0 e0 v4 e4 v5 e5 (AX g s) []:=by intros;rfl
theorem VU (tl:Heap):rh (e,AP f1 f2 f3 v0 e0 v4 e4 v5 e5 (AX g s) (tl)) 0 Bd=AP (.row true f1.ver 15 (Ba f1)) (.row true f2.ver 4 (Ba f2)) (.row true f3.ver 4 (Ba f3)) v0 e0 v4 e4 v5 e5 (AX g s) []:=by intros;rfl
theorem VT (o0 o1:AG) (tl:Heap):rh (e,AP f1 f2 f3 v0 e0 v4 e4 v5 e5 (AX g s) (o0::o1::tl)) 0 C7=AP E0 E0 E0 v0 e0 v4 e4 v5 e5 (AX g s) [.box [.t (tI (intOf (AF (cellOf o0 0))))],.box [.t (.bool (Ax (AF (cellOf o1 0))))]]:=by intros;rfl
theorem VR (o0:AG) (tl:Heap):rh (e,AP f1 f2 f3 v0 e0 v4 e4 v5 e5 (AX g s) (o0::tl)) 0 OF=AP E0 E0 E0 v0 e0 v4 e4 v5 e5 (AX g s) [.box [.t (tI (intOf (AF (cellOf o0 0)))),.t (tI (intOf (AF (cellOf o0 1)))),.t (tI (intOf (AF (cellOf o0 2)))),.t (tI (intOf (AF (cellOf o0 3)))),.t (tI (intOf (AF (cellOf o0 4)))),.t (.bool (Ax (AF (cellOf o0 5)))),.t (.str (strOf (AF (cellOf o0 6)))),.t (.sl 2 (CM (AF (cellOf o0 7))))]]:=by intros;rfl
theorem VQ (o0:AG) (tl:Heap):rh (e,AP f1 f2 f3 v0 e0 v4 e4 v5 e5 (AX g s) (o0::tl)) 0 B7=AP E0 E0 E0 v0 e0 v4 e4 v5 e5 (AX g s) [.row false o0.ver 8 (Ba o0)]:=by intros;rfl
theorem S9 (o0 o1:AG) (tl:Heap):rh (e,AP f1 f2 f3 v0 e0 v4 e4 v5 e5 (AX g s) (o0::o1::tl)) 0 KV=AP E0 E0 E0 v0 e0 v4 e4 v5 e5 (AX g s) [.row false o0.ver 8 (Ba o0),.box [.t (tI (intOf (AF (cellOf o1 0)))),.t (tI (intOf (AF (cellOf o1 1)))),.t (tI (intOf (AF (cellOf o1 2)))),.t (tI (intOf (AF (cellOf o1 3)))),.t (tI (intOf (AF (cellOf o1 4)))),.t (.bool (Ax (AF (cellOf o1 5)))),.t (.str (strOf (AF (cellOf o1 6)))),.t (.sl 2 (CM (AF (cellOf o1 7))))]]:=by intros;rfl
theorem S8 (o0 o1 o2:AG) (tl:Heap):rh (e,AP f1 f2 f3 v0 e0 v4 e4 v5 e5 (AX g s) (o0::o1::o2::tl)) 0 IW=AP (.row true f1.ver 15 (Ba f1)) (.row true f2.ver 4 (Ba f2)) (.row true f3.ver 4 (Ba f3)) v0 e0 v4 e4 v5 e5 (AX g s) [.row false o0.ver 8 (Ba o0),.box [.t (tI (intOf (AF (cellOf o1 0)))),.t (tI (intOf (AF (cellOf o1 1)))),.t (.sl 2 (CM (AF (cellOf o1 2)))),.t (.str (strOf (AF (cellOf o1 3))))],.box [.t (tI (intOf (AF (cellOf o2 0)))),.t (tI (intOf (AF (cellOf o2 1)))),.t (tI (intOf (AF (cellOf o2 2)))),.t (tI (intOf (AF (cellOf o2 3)))),.t (tI (intOf (AF (cellOf o2 4)))),.t (.bool (Ax (AF (cellOf o2 5)))),.t (.str (strOf (AF (cellOf o2 6)))),.t (.sl 2 (CM (AF (cellOf o2 7))))]]:=by intros;rfl
theorem S7 (o0 o1 o2:AG) (tl:Heap):rh (e,AP f1 f2 f3 v0 e0 v4 e4 v5 e5 (AX g s) (o0::o1::o2::tl)) 0 B6=AP E0 E0 E0 v0 e0 v4 e4 v5 e5 (AX g s) [.row false o0.ver 8 (Ba o0),.box [.t (tI (intOf (AF (cellOf o1 0)))),.t (tI (intOf (AF (cellOf o1 1)))),.t (.sl 2 (CM (AF (cellOf o1 2)))),.t (.str (strOf (AF (cellOf o1 3))))],.box [.t (tI (intOf (AF (cellOf o2 0)))),.t (tI (intOf (AF (cellOf o2 1)))),.t (tI (intOf (AF (cellOf o2 2)))),.t (tI (intOf (AF (cellOf o2 3)))),.t (tI (intOf (AF (cellOf o2 4)))),.t (.bool (Ax (AF (cellOf o2 5)))),.t (.str (strOf (AF (cellOf o2 6)))),.t (.sl 2 (CM (AF (cellOf o2 7))))]]:=by intros;rfl
theorem S6 (o0 o1 o2 o3:AG) (tl:Heap):rh (e,AP f1 f2 f3 v0 e0 v4 e4 v5 e5 (AX g s) (o0::o1::o2::o3::tl)) 0 KU=AP E0 E0 E0 v0 e0 v4 e4 v5 e5 (AX g s) [.row false o0.ver 8 (Ba o0),.box [.t (tI (intOf (AF (cellOf o1 0)))),.t (tI (intOf (AF (cellOf o1 1)))),.t (.sl 2 (CM (AF (cellOf o1 2)))),.t (.str (strOf (AF (cellOf o1 3))))],.box [.t (tI (intOf (AF (cellOf o2 0)))),.t (tI (intOf (AF (cellOf o2 1)))),.t (tI (intOf (AF (cellOf o2 2)))),.t (tI (intOf (AF (cellOf o2 3)))),.t (tI (intOf (AF (cellOf o2 4)))),.t (.bool (Ax (AF (cellOf o2 5)))),.t (.str (strOf (AF (cellOf o2 6)))),.t (.sl 2 (CM (AF (cellOf o2 7))))],.box [.t (tI (intOf (AF (cellOf o3 0)))),.t (.sl 10 (CM (AF (cellOf o3 1)))),.t (tI (intOf (AF (cellOf o3 2)))),.t (tI (intOf (AF (cellOf o3 3))))]]:=by intros;rfl
theorem S5 (o0 o1:AG) (tl:Heap):rh (e,AP f1 f2 f3 v0 e0 v4 e4 v5 e5 (AX g s) (o0::o1::tl)) 0 M0=AP E0 E0 E0 v0 e0 v4 e4 v5 e5 (AX g s) [.row false o0.ver 8 (Ba o0),.box [.t (tI (intOf (AF (cellOf o1 0)))),.t (tI (intOf (AF (cellOf o1 1)))),.t (.sl 2 (CM (AF (cellOf o1 2)))),.t (.str (strOf (AF (cellOf o1 3))))]]:=by intros;rfl
theorem S4 (o0:AG) (tl:Heap):rh (e,AP f1 f2 f3 v0 e0 v4 e4 v5 e5 (AX g s) (o0::tl)) 0 KS=AP E0 E0 E0 v0 e0 v4 e4 v5 e5 (AX g s) [.box [.t (tI (intOf (AF (cellOf o0 0)))),.t (.sl 10 (CM (AF (cellOf o0 1)))),.t (tI (intOf (AF (cellOf o0 2)))),.t (tI (intOf (AF (cellOf o0 3))))]]:=by intros;rfl
theorem VO (x y:AG):upd (rh (e,AP f1 f2 f3 v0 e0 v4 e4 v5 e5 (AX g s) []) 0 C7) [(8,x),(9,y)]=AP E0 E0 E0 v0 e0 v4 e4 v5 e5 (AX g s) [x,y]:=by intros;rfl
theorem VN (x:AG):upd (rh (e,AP f1 f2 f3 v0 e0 v4 e4 v5 e5 (AX g s) []) 0 OF) [(8,x)]=AP E0 E0 E0 v0 e0 v4 e4 v5 e5 (AX g s) [x]:=by intros;rfl
theorem VM (x:AG):upd (rh (e,AP f1 f2 f3 v0 e0 v4 e4 v5 e5 (AX g s) []) 0 B7) [(8,x)]=AP E0 E0 E0 v0 e0 v4 e4 v5 e5 (AX g s) [x]:=by intros;rfl
theorem S2 (o0:AG) (x y:AG):upd (rh (e,AP f1 f2 f3 v0 e0 v4 e4 v5 e5 (AX g s) [o0]) 0 KV) [(8,x),(9,y)]=AP E0 E0 E0 v0 e0 v4 e4 v5 e5 (AX g s) [x,y]:=by intros;rfl
theorem Sz (o0:AG) (y:AG):upd (rh (e,AP f1 f2 f3 v0 e0 v4 e4 v5 e5 (AX g s) [o0]) 0 M0) [(9,y)]=AP E0 E0 E0 v0 e0 v4 e4 v5 e5 (AX g s) [.row false o0.ver 8 (Ba o0),y]:=by intros;rfl
theorem S0 (o0 o1 o2:AG) (y:AG):upd (rh (e,AP f1 f2 f3 v0 e0 v4 e4 v5 e5 (AX g s) [o0,o1,o2]) 0 KU) [(11,y)]=AP E0 E0 E0 v0 e0 v4 e4 v5 e5 (AX g s) [.row false o0.ver 8 (Ba o0),.box [.t (tI (intOf (AF (cellOf o1 0)))),.t (tI (intOf (AF (cellOf o1 1)))),.t (.sl 2 (CM (AF (cellOf o1 2)))),.t (.str (strOf (AF (cellOf o1 3))))],.box [.t (tI (intOf (AF (cellOf o2 0)))),.t (tI (intOf (AF (cellOf o2 1)))),.t (tI (intOf (AF (cellOf o2 2)))),.t (tI (intOf (AF (cellOf o2 3)))),.t (tI (intOf (AF (cellOf o2 4)))),.t (.bool (Ax (AF (cellOf o2 5)))),.t (.str (strOf (AF (cellOf o2 6)))),.t (.sl 2 (CM (AF (cellOf o2 7))))],y]:=by intros;rfl
theorem Sy (y:AG):upd (rh (e,AP f1 f2 f3 v0 e0 v4 e4 v5 e5 (AX g s) []) 0 KS) [(8,y)]=AP E0 E0 E0 v0 e0 v4 e4 v5 e5 (AX g s) [y]:=by intros;rfl
theorem S1 (o0 o1 x y z w:AG):upd (rh (e,AP f1 f2 f3 v0 e0 v4 e4 v5 e5 (AX g s) [o0,o1]) 0 IW) [(2,x),(3,y),(4,z),(10,w)]=AP x y z v0 e0 v4 e4 v5 e5 (AX g s) [.row false o0.ver 8 (Ba o0),.box [.t (tI (intOf (AF (cellOf o1 0)))),.t (tI (intOf (AF (cellOf o1 1)))),.t (.sl 2 (CM (AF (cellOf o1 2)))),.t (.str (strOf (AF (cellOf o1 3))))],w]:=by intros;rfl
theorem Po (o0 y:AG) (d:List AV):upd (rh (e,AP f1 f2 f3 v0 e0 v4 e4 v5 e5 (AX g s) [o0]) 0 M0) [(7,.box d),(9,y)]=AP E0 E0 E0 v0 e0 v4 e4 v5 e5 d [.row false o0.ver 8 (Ba o0),y]:=by intros;rfl
theorem PW (x y z:AG) (c:List AV) (tl:Heap):upd (AP f1 f2 f3 v0 e0 v4 e4 v5 e5 c tl) [(2,x),(3,y),(4,z)]=AP x y z v0 e0 v4 e4 v5 e5 c tl:=by intros;rfl
theorem NM (x y z w o0 o1 o2:AG) (c:List AV) (tl:Heap):upd (AP f1 f2 f3 v0 e0 v4 e4 v5 e5 c (o0::o1::o2::tl)) [(2,x),(3,y),(4,z),(10,w)]=AP x y z v0 e0 v4 e4 v5 e5 c (o0::o1::w::tl):=by intros;rfl
theorem Uz (d:List AV) (c:List AV) (tl:Heap):upd (AP f1 f2 f3 v0 e0 v4 e4 v5 e5 c tl) [(7,.box d)]=AP f1 f2 f3 v0 e0 v4 e4 v5 e5 d tl:=by intros;rfl
theorem Sf (d:List AV) (w:Nat) (r:List (List Tree)) (c:List AV) (tl:Heap):upd (AP f1 f2 f3 v0 e0 v4 e4 v5 e5 c tl) [(1,.row false w 9 r),(7,.box d)]=AP f1 f2 f3 w r v4 e4 v5 e5 d tl:=by intros;rfl
theorem Se (d:List AV) (w:Nat) (r:List (List Tree)) (c:List AV) (tl:Heap):upd (AP f1 f2 f3 v0 e0 v4 e4 v5 e5 c tl) [(5,.row false w 9 r),(7,.box d)]=AP f1 f2 f3 v0 e0 w r v5 e5 d tl:=by intros;rfl
theorem Sc (d:List AV) (w:Nat) (r:List (List Tree)) (c:List AV) (tl:Heap):upd (AP f1 f2 f3 v0 e0 v4 e4 v5 e5 c tl) [(6,.row false w 9 r),(7,.box d)]=AP f1 f2 f3 v0 e0 v4 e4 w r d tl:=by intros;rfl
theorem Uy (x o0:AG) (c:List AV) (tl:Heap):upd (AP f1 f2 f3 v0 e0 v4 e4 v5 e5 c (o0::tl)) [(8,x)]=AP f1 f2 f3 v0 e0 v4 e4 v5 e5 c (x::tl):=by intros;rfl
theorem SZ (x y o0 o1:AG) (c:List AV) (tl:Heap):upd (AP f1 f2 f3 v0 e0 v4 e4 v5 e5 c (o0::o1::tl)) [(8,x),(9,y)]=AP f1 f2 f3 v0 e0 v4 e4 v5 e5 c (x::y::tl):=by intros;rfl
theorem Sb (x o0:AG) (d:List AV) (c:List AV) (tl:Heap):upd (AP f1 f2 f3 v0 e0 v4 e4 v5 e5 c (o0::tl)) [(7,.box d),(8,x)]=AP f1 f2 f3 v0 e0 v4 e4 v5 e5 d (x::tl):=by intros;rfl
theorem Sa (x o0 o1:AG) (d:List AV) (c:List AV) (tl:Heap):upd (AP f1 f2 f3 v0 e0 v4 e4 v5 e5 c (o0::o1::tl)) [(7,.box d),(9,x)]=AP f1 f2 f3 v0 e0 v4 e4 v5 e5 d (o0::x::tl):=by intros;rfl
theorem VY (tl:Heap):rb (e,AP f1 f2 f3 v0 e0 v4 e4 v5 e5 (AX g s) tl) 7 0 A1=AX g s:=by intros;rfl
theorem U4 (a b d:Int) (fs:List Frame):upd (AX g s) [(0,.t (tI a)),(1,.t (.sl 10 (fs.map Frame.enc))),(2,.t (tI b)),(3,.t (tI d))]=AX g {s with dat:=⟨a,fs,b,d⟩}:=by kernel_rfl
theorem U2 (a b d:Int) (fs:List Frame):upd (AX g s) [(4,.t (tI a)),(5,.t (.sl 10 (fs.map Frame.enc))),(6,.t (tI b)),(7,.t (tI d))]=AX g {s with rep:=⟨a,fs,b,d⟩}:=by kernel_rfl
theorem U3 (a:Int):upd (AX g s) [(15,.t (tI a))]=AX g {s with now:=a}:=by kernel_rfl
theorem Si (a:Int):upd (AX g s) [(12,.t (tI a))]=AX g {s with dist:=a}:=by kernel_rfl
theorem U1 (a:Snd):upd (AX g s) [(16,.t (tI a.c.frm)),(17,.t (tI a.c.dst)),(18,.t (tI a.c.start)),(19,.t (tI a.c.fin)),(20,.t (tI a.c.rate)),(21,.t (tI a.c.rng)),(22,.t (tI a.c.loss)),(23,.t (tI a.ses)),(24,.t (.str a.data)),(25,.t (tI a.fin)),(26,.t (tI a.busy)),(27,.t (tI a.ser)),(28,.t (.sl 2 (a.acked.map Span.enc))),(29,.t (tI a.due)),(30,.t (tI a.st))]=AX g {s with snd:=a}:=by kernel_rfl
theorem Sg (a:Snd) (k:Bool) (t:Int):upd (AX g s) [(16,.t (tI a.c.frm)),(17,.t (tI a.c.dst)),(18,.t (tI a.c.start)),(19,.t (tI a.c.fin)),(20,.t (tI a.c.rate)),(21,.t (tI a.c.rng)),(22,.t (tI a.c.loss)),(23,.t (tI a.ses)),(24,.t (.str a.data)),(25,.t (tI a.fin)),(26,.t (tI a.busy)),(27,.t (tI a.ser)),(28,.t (.sl 2 (a.acked.map Span.enc))),(29,.t (tI a.due)),(30,.t (tI a.st)),(38,.t (.bool k)),(39,.t (tI t))]=AX g {s with snd:=a,kno:=k,knoAt:=t}:=by kernel_rfl
theorem U0 (a:Rcv):upd (AX g s) [(31,.t (tI a.ses)),(32,.t (tI a.tot)),(33,.t (.sl 2 (a.known.map Span.enc))),(34,.t (.str a.data))]=AX g {s with rcv:=a}:=by kernel_rfl
theorem U5 (k:Bool) (t:Int):upd (AX g s) [(36,.t (.bool k)),(37,.t (tI t))]=AX g {s with rcvd:=k,arrive:=t}:=by kernel_rfl
theorem Ia (a:Snd) (w:Nat) (o:List Out):upd (AX g s) [(16,.t (tI a.c.frm)),(17,.t (tI a.c.dst)),(18,.t (tI a.c.start)),(19,.t (tI a.c.fin)),(20,.t (tI a.c.rate)),(21,.t (tI a.c.rng)),(22,.t (tI a.c.loss)),(23,.t (tI a.ses)),(24,.t (.str a.data)),(25,.t (tI a.fin)),(26,.t (tI a.busy)),(27,.t (tI a.ser)),(28,.t (.sl 2 (a.acked.map Span.enc))),(29,.t (tI a.due)),(30,.t (tI a.st)),(35,.sref 1 w 0 (s.pend.length+o.length))]=AX {g with v0:=w,pre:=[]} {s with snd:=a,pend:=s.pend++o}:=by
 rw [← List.length_append];kernel_rfl
theorem LL (a:Snd) (w:Nat) (o:List Out) (k:Bool) (t:Int):upd (AX g s) [(16,.t (tI a.c.frm)),(17,.t (tI a.c.dst)),(18,.t (tI a.c.start)),(19,.t (tI a.c.fin)),(20,.t (tI a.c.rate)),(21,.t (tI a.c.rng)),(22,.t (tI a.c.loss)),(23,.t (tI a.ses)),(24,.t (.str a.data)),(25,.t (tI a.fin)),(26,.t (tI a.busy)),(27,.t (tI a.ser)),(28,.t (.sl 2 (a.acked.map Span.enc))),(29,.t (tI a.due)),(30,.t (tI a.st)),(35,.sref 1 w 0 (s.pend.length+o.length)),(38,.t (.bool k)),(39,.t (tI t))]=AX {g with v0:=w,pre:=[]} {s with snd:=a,pend:=s.pend++o,kno:=k,knoAt:=t}:=by
 rw [← List.length_append];kernel_rfl
theorem ucP_26 (x:Out) (l:List Out) (hp:s.pend=x::l):upd (AX g s) [(35,.sref 1 g.v0 (g.pre.length+1) (s.pend.length-1))]=AX {g with pre:=g.pre++[x.enc]} {s with pend:=l}:=by
 rw [show s.pend.length-1=l.length by rw [hp];rfl,show g.pre.length+1=(g.pre++[x.enc]).length by simp];kernel_rfl
theorem Ic (a b d:Int) (fs:List Frame) (e:Int) (w:Nat) (x:Out):upd (AX g s) [(0,.t (tI a)),(1,.t (.sl 10 (fs.map Frame.enc))),(2,.t (tI b)),(3,.t (tI d)),(11,.t (tI e)),(13,.sref 5 w 0 (s.sent.length+1))]=AX {g with v4:=w} {s with dat:=⟨a,fs,b,d⟩,entered:=e,sent:=s.sent++[x]}:=by
 rw [show s.sent.length+1=(s.sent++[x]).length by simp];kernel_rfl
theorem K2 (a b d:Int) (fs:List Frame) (e u:Int) (w:Nat) (x:Out):upd (AX g s) [(0,.t (tI a)),(1,.t (.sl 10 (fs.map Frame.enc))),(2,.t (tI b)),(3,.t (tI d)),(11,.t (tI e)),(12,.t (tI u)),(13,.sref 5 w 0 (s.sent.length+1))]=AX {g with v4:=w} {s with dat:=⟨a,fs,b,d⟩,entered:=e,dist:=u,sent:=s.sent++[x]}:=by
 rw [show s.sent.length+1=(s.sent++[x]).length by simp];kernel_rfl
theorem Ib (a b d:Int) (fs:List Frame) (e:Int) (w:Nat) (x:Out):upd (AX g s) [(4,.t (tI a)),(5,.t (.sl 10 (fs.map Frame.enc))),(6,.t (tI b)),(7,.t (tI d)),(11,.t (tI e)),(14,.sref 6 w 0 (s.told.length+1))]=AX {g with v5:=w} {s with rep:=⟨a,fs,b,d⟩,entered:=e,told:=s.told++[x]}:=by
 rw [show s.told.length+1=(s.told++[x]).length by simp];kernel_rfl
theorem Kz (a b d:Int) (fs:List Frame) (e u:Int) (w:Nat) (x:Out):upd (AX g s) [(4,.t (tI a)),(5,.t (.sl 10 (fs.map Frame.enc))),(6,.t (tI b)),(7,.t (tI d)),(11,.t (tI e)),(12,.t (tI u)),(14,.sref 6 w 0 (s.told.length+1))]=AX {g with v5:=w} {s with rep:=⟨a,fs,b,d⟩,entered:=e,dist:=u,told:=s.told++[x]}:=by
 rw [show s.told.length+1=(s.told++[x]).length by simp];kernel_rfl
theorem A0:type_of% (And.intro @rd26 (And.intro @VS (And.intro @VU (And.intro @VT (And.intro @VR (And.intro @VQ (And.intro @S9 (And.intro @S8 (And.intro @S7 (And.intro @S6 (And.intro @S5 (And.intro @S4 (And.intro @VO (And.intro @VN (And.intro @VM (And.intro @S2 (And.intro @Sz (And.intro @S0 (And.intro @Sy (And.intro @S1 (And.intro @Po (And.intro @PW (And.intro @NM (And.intro @Uz (And.intro @Sf (And.intro @Se (And.intro @Sc (And.intro @Uy (And.intro @SZ (And.intro @Sb (And.intro @Sa (And.intro @VY (And.intro @U4 (And.intro @U2 (And.intro @U3 (And.intro @Si (And.intro @U1 (And.intro @Sg (And.intro @U0 (And.intro @U5 (And.intro @Ia @LL))))))))))))))))))))))))))))))))))))))))):=(And.intro @rd26 (And.intro @VS (And.intro @VU (And.intro @VT (And.intro @VR (And.intro @VQ (And.intro @S9 (And.intro @S8 (And.intro @S7 (And.intro @S6 (And.intro @S5 (And.intro @S4 (And.intro @VO (And.intro @VN (And.intro @VM (And.intro @S2 (And.intro @Sz (And.intro @S0 (And.intro @Sy (And.intro @S1 (And.intro @Po (And.intro @PW (And.intro @NM (And.intro @Uz (And.intro @Sf (And.intro @Se (And.intro @Sc (And.intro @Uy (And.intro @SZ (And.intro @Sb (And.intro @Sa (And.intro @VY (And.intro @U4 (And.intro @U2 (And.intro @U3 (And.intro @Si (And.intro @U1 (And.intro @Sg (And.intro @U0 (And.intro @U5 (And.intro @Ia @LL)))))))))))))))))))))))))))))))))))))))))
end Ab
set_option linter.unusedVariables false
set_option linter.unusedSimpArgs false
set_option maxRecDepth 100000
namespace Ab
open Go
theorem entD_26 (g:Gh) (s:Ses) (x:Seg) (f1 f2 f3:AG) (hc:EOk s s.dat) :
  Ev fun n=>∀again,W0 n (fI C n) again ([.ptr 7 0,.ptr 7 0,.t (tI 0),.t (tI s.now),.agg (Cy x)],H26 f1 f2 f3 g s [])=again ([],H26 E0 E0 E0 {g with v4:=g.v4+1} (Dq s x) []):=by
 have q1:¬(10000:Int)≤s.entered:=by have:=hc.ent;omega
 have q2:w64 (s.entered+1)=s.entered+1:=by have:=hc.ent;exact Af (by omega) (by omega)
 have q3:w64 (s.dist+1)=s.dist+1:=by have:=hc.dst;exact Af (by omega) (by omega)
 have q4:s.sent.length+1≤1073741824:=by have:=hc.sl;omega
 have q5:List.take s.sent.length (List.map Out.enc s.sent)=List.map Out.enc s.sent:=List.take_of_length_le (by simp)
 have key:=fun (ds:List Int) (hd:∀d∈ds,s.dat.rng≤d∧d≤2*s.dat.rng) (hl:ds.length≤2)=>s156 s.dat hc.gc s.now x hc.now ds hd (by have:=hc.len;omega)
 have kR:∀d∈[s.dat.rng],s.dat.rng≤d∧d≤2*s.dat.rng:=by have:=hc.gc.rng;simp;omega
 simp only [B8.enc,List.cons_append,List.nil_append] at key
 by_cases h0:Rs s.dark s.now=true
 ·rw [JC s x [] s.dist (by simp [Df,h0])]
  refine ((M4 s.dark s.now).and (key [] (by simp) (by simp))).mono fun n h again => ?_
  obtain ⟨h1,h2⟩:=h
  simp only [List.map_nil] at h2
  simp only [H26,Fi,G3,Cy,A0,vv2,vf,reduceCtorEq,Nat.reduceAdd,Nat.reduceEqDiff,h1,h0,h2,Aa,AM,q1,q2,q3,q4,q5,bne_self_eq_false,Nat.le_refl,Ic (x:=⟨s.now,x⟩),List.map_append,List.map_cons,List.map_nil,Out.enc]
 ·have h0:Rs s.dark s.now=false:=by simpa using h0
  by_cases h5:s.picks=[]
  ·rw [JC s x [s.dat.rng] s.dist (by simp [Df,h0,h5])]
   refine ((M4 s.dark s.now).and (key [s.dat.rng] kR (by simp))).mono fun n h again => ?_
   obtain ⟨h1,h2⟩:=h
   simp only [List.map_cons,List.map_nil,Cn] at h2
   have h5':(s.picks.length:Int)=0:=by simp [h5]
   simp only [H26,Fi,G3,Cy,A0,vv2,vf,reduceCtorEq,Nat.reduceAdd,Nat.reduceEqDiff,h1,h0,h2,h5',beq_self_eq_true,Aa,AM,q1,q2,q3,q4,q5,bne_self_eq_false,Nat.le_refl,Ic (x:=⟨s.now,x⟩),List.map_append,List.map_cons,List.map_nil,Out.enc]
  ·have hpos:=List.length_pos_iff.2 h5
   have h6:¬(s.picks.length:Int)=0:=by omega
   have h6':((s.picks.length:Int)==0)=false:=by simpa using h6
   have hm1:=Int.emod_nonneg s.entered h6
   have hm2:=Int.emod_lt_of_pos s.entered (show (0:Int)<s.picks.length by omega)
   have hm:Int.tmod s.entered s.picks.length=s.entered % s.picks.length:=Int.tmod_eq_emod_of_nonneg hc.ent.1
   obtain ⟨p,hp⟩:∃p,s.picks[(s.entered % s.picks.length).toNat]? = some p:=⟨_,List.getElem?_eq_getElem (by omega)⟩
   have hg:s.picks.getD (s.entered % s.picks.length).toNat 0=p:=by rw [List.getD_eq_getElem?_getD,hp];rfl
   have hpk:=hc.pk p (List.mem_of_getElem? hp)
   have hrg:=hc.gc.rng
   have k176:=s176 p s.dat.rng hpk hrg
   have kf:=key (Ci p s.dat.rng) (fun d hd=>I8 hrg.1 hd) (I9 _ _)
   have kr:=key [s.dat.rng] kR (by simp)
   have c1:∀z:Int×List (List Tree),True:=fun _=>trivial
   by_cases h7:(Ci p s.dat.rng).head? = some s.dat.rng
   ·rw [JC s x (Ci p s.dat.rng) s.dist (by simp only [Df,h0,h5,hg,h7,if_true,if_false,Bool.false_eq_true])]
    obtain ⟨l,hl⟩:∃l,Ci p s.dat.rng=s.dat.rng::l:=by
     cases hf:Ci p s.dat.rng with
     |nil=>rw [hf] at h7;cases h7
     |cons a l=>rw [hf] at h7;cases h7;exact ⟨l,rfl⟩
    rw [hl] at kf k176 ⊢
    refine ((M4 s.dark s.now).and (k176.and kf)).mono fun n h again => ?_
    obtain ⟨h1,h2,h3⟩:=h
    simp only [List.map_cons,Cn] at h2 h3
    simp only [H26,Fi,G3,DE,G6,DE,G5,Cy,A0,vv2,vf,reduceCtorEq,Nat.reduceAdd,Nat.reduceEqDiff,h1,h0,h2,h3,h6,h6',hm,hm1,hp,List.map_cons,Cn,List.getElem?_cons_zero,(show (0:Int)<((l.length+1:Nat):Int) by omega),beq_self_eq_true,Aa,AM,q1,q2,q3,q4,q5,bne_self_eq_false,Nat.le_refl,Ic (x:=⟨s.now,x⟩),List.map_append,List.map_nil,Out.enc]
   ·have h8:∀y:Int,((Ci p s.dat.rng).map Cn)[0]? = some [tI y]→(y==s.dat.rng)=false:=by
     intro y hy
     cases hf:Ci p s.dat.rng with
     |nil=>rw [hf] at hy;cases hy
     |cons a l=>
      rw [hf] at hy h7
      cases hy
      simp at h7
      simpa using h7
    have k8:(Ci p s.dat.rng).length=0∨∃y,0<(Ci p s.dat.rng).length∧((Ci p s.dat.rng).map Cn)[0]? = some [tI y]∧(y==s.dat.rng)=false:=by
     cases hf:Ci p s.dat.rng with
     |nil=>exact .inl rfl
     |cons a l=>exact .inr ⟨a,by simp,rfl,h8 a (by rw [hf];rfl)⟩
    by_cases h9:0≤s.limit∧s.limit≤s.dist
    ·rw [JC s x [s.dat.rng] s.dist (by simp only [Df,h0,h5,hg,h7,h9,if_true,if_false,Bool.false_eq_true,and_self])]
     refine ((M4 s.dark s.now).and (k176.and kr)).mono fun n h again => ?_
     obtain ⟨h1,h2,h3⟩:=h
     simp only [List.map_cons,List.map_nil,Cn] at h3
     rcases k8 with k8|⟨y,k8,k9,k10⟩
     ·simp only [H26,Fi,G3,DE,G6,DE,G5,Cy,A0,vv2,vf,reduceCtorEq,Nat.reduceAdd,Nat.reduceEqDiff,h1,h0,h2,h3,h6,h6',hm,hm1,hp,List.map_cons,Cn,k8,Int.natCast_zero,Int.lt_irrefl,h9,beq_self_eq_true,Aa,AM,q1,q2,q3,q4,q5,bne_self_eq_false,Nat.le_refl,Ic (x:=⟨s.now,x⟩),List.map_append,List.map_nil,Out.enc]
     ·simp only [H26,Fi,G3,DE,G6,DE,G5,Cy,A0,vv2,vf,reduceCtorEq,Nat.reduceAdd,Nat.reduceEqDiff,h1,h0,h2,h3,h6,h6',hm,hm1,hp,List.map_cons,Cn,(show (0:Int)<((Ci p s.dat.rng).length:Int) by omega),k9,k10,h9,beq_self_eq_true,Aa,AM,q1,q2,q3,q4,q5,bne_self_eq_false,Nat.le_refl,Ic (x:=⟨s.now,x⟩),List.map_append,List.map_nil,Out.enc]
    ·rw [JC s x (Ci p s.dat.rng) (s.dist+1) (by simp only [Df,h0,h5,hg,h7,h9,if_true,if_false,Bool.false_eq_true,and_self])]
     refine ((M4 s.dark s.now).and (k176.and kf)).mono fun n h again => ?_
     obtain ⟨h1,h2,h3⟩:=h
     have h9':(0≤s.limit→¬s.limit≤s.dist):=fun a b=>h9 ⟨a,b⟩
     by_cases h10:0≤s.limit
     ·have h11:=h9' h10
      rcases k8 with k8|⟨y,k8,k9,k10⟩
      ·simp only [H26,Fi,G3,DE,G6,DE,G5,Cy,A0,vv2,vf,reduceCtorEq,Nat.reduceAdd,Nat.reduceEqDiff,h1,h0,h2,h3,h6,h6',hm,hm1,hp,List.map_cons,Cn,k8,Int.natCast_zero,Int.lt_irrefl,h10,h11,beq_self_eq_true,Aa,AM,q1,q2,q3,q4,q5,bne_self_eq_false,Nat.le_refl,K2 (x:=⟨s.now,x⟩),List.map_append,List.map_nil,Out.enc]
      ·simp only [H26,Fi,G3,DE,G6,DE,G5,Cy,A0,vv2,vf,reduceCtorEq,Nat.reduceAdd,Nat.reduceEqDiff,h1,h0,h2,h3,h6,h6',hm,hm1,hp,List.map_cons,Cn,(show (0:Int)<((Ci p s.dat.rng).length:Int) by omega),k9,k10,h10,h11,beq_self_eq_true,Aa,AM,q1,q2,q3,q4,q5,bne_self_eq_false,Nat.le_refl,K2 (x:=⟨s.now,x⟩),List.map_append,List.map_nil,Out.enc]
     ·rcases k8 with k8|⟨y,k8,k9,k10⟩
      ·simp only [H26,Fi,G3,DE,G6,DE,G5,Cy,A0,vv2,vf,reduceCtorEq,Nat.reduceAdd,Nat.reduceEqDiff,h1,h0,h2,h3,h6,h6',hm,hm1,hp,List.map_cons,Cn,k8,Int.natCast_zero,Int.lt_irrefl,h10,beq_self_eq_true,Aa,AM,q1,q2,q3,q4,q5,bne_self_eq_false,Nat.le_refl,K2 (x:=⟨s.now,x⟩),List.map_append,List.map_nil,Out.enc]
      ·simp only [H26,Fi,G3,DE,G6,DE,G5,Cy,A0,vv2,vf,reduceCtorEq,Nat.reduceAdd,Nat.reduceEqDiff,h1,h0,h2,h3,h6,h6',hm,hm1,hp,List.map_cons,Cn,(show (0:Int)<((Ci p s.dat.rng).length:Int) by omega),k9,k10,h10,beq_self_eq_true,Aa,AM,q1,q2,q3,q4,q5,bne_self_eq_false,Nat.le_refl,K2 (x:=⟨s.now,x⟩),List.map_append,List.map_nil,Out.enc]
theorem entR_26 (g:Gh) (s:Ses) (x:Seg) (f1 f2 f3:AG) (hc:EOk s s.rep) (v8:Nat) (e8:List (List Tree)) (a b:Int) (ks:List (List Tree)) (bd:ByteArray) (y:Seg) :
  Ev fun n=>∀again,W3 n (fI C n) again ([.ptr 7 0,.ptr 7 4,.t (tI 1),.t (tI s.now),.agg (Cy x)],H26 f1 f2 f3 g s [.row false v8 8 e8,.box [.t (tI a),.t (tI b),.t (.sl 2 ks),.t (.str bd)],.box (Cy y)])=again ([],H26 E0 E0 E0 {g with v5:=g.v5+1} (Cd s x) [.row false v8 8 e8,.box [.t (tI a),.t (tI b),.t (.sl 2 ks),.t (.str bd)],.box (Cy y)]):=by
 have q1:¬(10000:Int)≤s.entered:=by have:=hc.ent;omega
 have q2:w64 (s.entered+1)=s.entered+1:=by have:=hc.ent;exact Af (by omega) (by omega)
 have q3:w64 (s.dist+1)=s.dist+1:=by have:=hc.dst;exact Af (by omega) (by omega)
 have q4:s.told.length+1≤1073741824:=by have:=hc.sl;omega
 have q5:List.take s.told.length (List.map Out.enc s.told)=List.map Out.enc s.told:=List.take_of_length_le (by simp)
 have key:=fun (ds:List Int) (hd:∀d∈ds,s.rep.rng≤d∧d≤2*s.rep.rng) (hl:ds.length≤2)=>s156 s.rep hc.gc s.now x hc.now ds hd (by have:=hc.len;omega)
 have kR:∀d∈[s.rep.rng],s.rep.rng≤d∧d≤2*s.rep.rng:=by have:=hc.gc.rng;simp;omega
 simp only [B8.enc,List.cons_append,List.nil_append] at key
 by_cases h0:Rs s.dark s.now=true
 ·rw [JB s x [] s.dist (by simp [Df,h0])]
  refine ((M4 s.dark s.now).and (key [] (by simp) (by simp))).mono fun n h again => ?_
  obtain ⟨h1,h2⟩:=h
  simp only [List.map_nil] at h2
  simp only [H26,Fj,G4,Cy,A0,vv2,vf,reduceCtorEq,Nat.reduceAdd,Nat.reduceEqDiff,h1,h0,h2,Aa,AM,q1,q2,q3,q4,q5,bne_self_eq_false,Nat.le_refl,Ib (x:=⟨s.now,x⟩),List.map_append,List.map_cons,List.map_nil,Out.enc]
 ·have h0:Rs s.dark s.now=false:=by simpa using h0
  by_cases h5:s.picks=[]
  ·rw [JB s x [s.rep.rng] s.dist (by simp [Df,h0,h5])]
   refine ((M4 s.dark s.now).and (key [s.rep.rng] kR (by simp))).mono fun n h again => ?_
   obtain ⟨h1,h2⟩:=h
   simp only [List.map_cons,List.map_nil,Cn] at h2
   have h5':(s.picks.length:Int)=0:=by simp [h5]
   simp only [H26,Fj,G4,Cy,A0,vv2,vf,reduceCtorEq,Nat.reduceAdd,Nat.reduceEqDiff,h1,h0,h2,h5',beq_self_eq_true,Aa,AM,q1,q2,q3,q4,q5,bne_self_eq_false,Nat.le_refl,Ib (x:=⟨s.now,x⟩),List.map_append,List.map_cons,List.map_nil,Out.enc]
  ·have hpos:=List.length_pos_iff.2 h5
   have h6:¬(s.picks.length:Int)=0:=by omega
   have h6':((s.picks.length:Int)==0)=false:=by simpa using h6
   have hm1:=Int.emod_nonneg s.entered h6
   have hm2:=Int.emod_lt_of_pos s.entered (show (0:Int)<s.picks.length by omega)
   have hm:Int.tmod s.entered s.picks.length=s.entered % s.picks.length:=Int.tmod_eq_emod_of_nonneg hc.ent.1
   obtain ⟨p,hp⟩:∃p,s.picks[(s.entered % s.picks.length).toNat]? = some p:=⟨_,List.getElem?_eq_getElem (by omega)⟩
   have hg:s.picks.getD (s.entered % s.picks.length).toNat 0=p:=by rw [List.getD_eq_getElem?_getD,hp];rfl
   have hpk:=hc.pk p (List.mem_of_getElem? hp)
   have hrg:=hc.gc.rng
   have k176:=s176 p s.rep.rng hpk hrg
   have kf:=key (Ci p s.rep.rng) (fun d hd=>I8 hrg.1 hd) (I9 _ _)
   have kr:=key [s.rep.rng] kR (by simp)
   have c1:∀z:Int×List (List Tree),True:=fun _=>trivial
   by_cases h7:(Ci p s.rep.rng).head? = some s.rep.rng
   ·rw [JB s x (Ci p s.rep.rng) s.dist (by simp only [Df,h0,h5,hg,h7,if_true,if_false,Bool.false_eq_true])]
    obtain ⟨l,hl⟩:∃l,Ci p s.rep.rng=s.rep.rng::l:=by
     cases hf:Ci p s.rep.rng with
     |nil=>rw [hf] at h7;cases h7
     |cons a l=>rw [hf] at h7;cases h7;exact ⟨l,rfl⟩
    rw [hl] at kf k176 ⊢
    refine ((M4 s.dark s.now).and (k176.and kf)).mono fun n h again => ?_
    obtain ⟨h1,h2,h3⟩:=h
    simp only [List.map_cons,Cn] at h2 h3
    simp only [H26,Fj,G4,DF,G8,DF,G7,Cy,A0,vv2,vf,reduceCtorEq,Nat.reduceAdd,Nat.reduceEqDiff,h1,h0,h2,h3,h6,h6',hm,hm1,hp,List.map_cons,Cn,List.getElem?_cons_zero,(show (0:Int)<((l.length+1:Nat):Int) by omega),beq_self_eq_true,Aa,AM,q1,q2,q3,q4,q5,bne_self_eq_false,Nat.le_refl,Ib (x:=⟨s.now,x⟩),List.map_append,List.map_nil,Out.enc]
   ·have h8:∀y:Int,((Ci p s.rep.rng).map Cn)[0]? = some [tI y]→(y==s.rep.rng)=false:=by
     intro y hy
     cases hf:Ci p s.rep.rng with
     |nil=>rw [hf] at hy;cases hy
     |cons a l=>
      rw [hf] at hy h7
      cases hy
      simp at h7
      simpa using h7
    have k8:(Ci p s.rep.rng).length=0∨∃y,0<(Ci p s.rep.rng).length∧((Ci p s.rep.rng).map Cn)[0]? = some [tI y]∧(y==s.rep.rng)=false:=by
     cases hf:Ci p s.rep.rng with
     |nil=>exact .inl rfl
     |cons a l=>exact .inr ⟨a,by simp,rfl,h8 a (by rw [hf];rfl)⟩
    by_cases h9:0≤s.limit∧s.limit≤s.dist
    ·rw [JB s x [s.rep.rng] s.dist (by simp only [Df,h0,h5,hg,h7,h9,if_true,if_false,Bool.false_eq_true,and_self])]
     refine ((M4 s.dark s.now).and (k176.and kr)).mono fun n h again => ?_
     obtain ⟨h1,h2,h3⟩:=h
     simp only [List.map_cons,List.map_nil,Cn] at h3
     rcases k8 with k8|⟨y,k8,k9,k10⟩
     ·simp only [H26,Fj,G4,DF,G8,DF,G7,Cy,A0,vv2,vf,reduceCtorEq,Nat.reduceAdd,Nat.reduceEqDiff,h1,h0,h2,h3,h6,h6',hm,hm1,hp,List.map_cons,Cn,k8,Int.natCast_zero,Int.lt_irrefl,h9,beq_self_eq_true,Aa,AM,q1,q2,q3,q4,q5,bne_self_eq_false,Nat.le_refl,Ib (x:=⟨s.now,x⟩),List.map_append,List.map_nil,Out.enc]
     ·simp only [H26,Fj,G4,DF,G8,DF,G7,Cy,A0,vv2,vf,reduceCtorEq,Nat.reduceAdd,Nat.reduceEqDiff,h1,h0,h2,h3,h6,h6',hm,hm1,hp,List.map_cons,Cn,(show (0:Int)<((Ci p s.rep.rng).length:Int) by omega),k9,k10,h9,beq_self_eq_true,Aa,AM,q1,q2,q3,q4,q5,bne_self_eq_false,Nat.le_refl,Ib (x:=⟨s.now,x⟩),List.map_append,List.map_nil,Out.enc]
    ·rw [JB s x (Ci p s.rep.rng) (s.dist+1) (by simp only [Df,h0,h5,hg,h7,h9,if_true,if_false,Bool.false_eq_true,and_self])]
     refine ((M4 s.dark s.now).and (k176.and kf)).mono fun n h again => ?_
     obtain ⟨h1,h2,h3⟩:=h
     have h9':(0≤s.limit→¬s.limit≤s.dist):=fun a b=>h9 ⟨a,b⟩
     by_cases h10:0≤s.limit
     ·have h11:=h9' h10
      rcases k8 with k8|⟨y,k8,k9,k10⟩
      ·simp only [H26,Fj,G4,DF,G8,DF,G7,Cy,A0,vv2,vf,reduceCtorEq,Nat.reduceAdd,Nat.reduceEqDiff,h1,h0,h2,h3,h6,h6',hm,hm1,hp,List.map_cons,Cn,k8,Int.natCast_zero,Int.lt_irrefl,h10,h11,beq_self_eq_true,Aa,AM,q1,q2,q3,q4,q5,bne_self_eq_false,Nat.le_refl,Kz (x:=⟨s.now,x⟩),List.map_append,List.map_nil,Out.enc]
      ·simp only [H26,Fj,G4,DF,G8,DF,G7,Cy,A0,vv2,vf,reduceCtorEq,Nat.reduceAdd,Nat.reduceEqDiff,h1,h0,h2,h3,h6,h6',hm,hm1,hp,List.map_cons,Cn,(show (0:Int)<((Ci p s.rep.rng).length:Int) by omega),k9,k10,h10,h11,beq_self_eq_true,Aa,AM,q1,q2,q3,q4,q5,bne_self_eq_false,Nat.le_refl,Kz (x:=⟨s.now,x⟩),List.map_append,List.map_nil,Out.enc]
     ·rcases k8 with k8|⟨y,k8,k9,k10⟩
      ·simp only [H26,Fj,G4,DF,G8,DF,G7,Cy,A0,vv2,vf,reduceCtorEq,Nat.reduceAdd,Nat.reduceEqDiff,h1,h0,h2,h3,h6,h6',hm,hm1,hp,List.map_cons,Cn,k8,Int.natCast_zero,Int.lt_irrefl,h10,beq_self_eq_true,Aa,AM,q1,q2,q3,q4,q5,bne_self_eq_false,Nat.le_refl,Kz (x:=⟨s.now,x⟩),List.map_append,List.map_nil,Out.enc]
      ·simp only [H26,Fj,G4,DF,G8,DF,G7,Cy,A0,vv2,vf,reduceCtorEq,Nat.reduceAdd,Nat.reduceEqDiff,h1,h0,h2,h3,h6,h6',hm,hm1,hp,List.map_cons,Cn,(show (0:Int)<((Ci p s.rep.rng).length:Int) by omega),k9,k10,h10,beq_self_eq_true,Aa,AM,q1,q2,q3,q4,q5,bne_self_eq_false,Nat.le_refl,Kz (x:=⟨s.now,x⟩),List.map_append,List.map_nil,Out.enc]
end Ab
set_option linter.unusedVariables false
set_option linter.unusedSimpArgs false
set_option maxRecDepth 100000
namespace Ab
open Go
theorem nx2_26 (n:Nat) (again:List AV×Heap→Option (List Tree)) (g:Gh) (s:Ses) (e:List AV) (o:Option Int) :
  Wq n (fI C n) again (e,H26 E0 E0 E0 g s (boO o))=again (Eb o,H26 E0 E0 E0 g s []):=by
 cases o<;>simp only [Wq,boO,Eb,H26,A0,vv2,vf,reduceCtorEq,Nat.reduceAdd,Nat.reduceEqDiff,Option.getD_none,Option.getD_some,Option.isSome_none,Option.isSome_some]
theorem nx3_26 (n:Nat) (again:List AV×Heap→Option (List Tree)) (g:Gh) (s:Ses) (e:List AV) (o:Option Int) (tl:Heap) (w:Bool) :
  Mt n (fI C n) (e,H26 E0 E0 E0 g s tl) again ([.t (.bool w)],H26 E0 E0 E0 g s (boO o))=again (Eb (C4 o (if w=true then some s.snd.due else none)),H26 E0 E0 E0 g s []):=by
 have k:=nx2_26 n again g s []
 cases w
 ·cases o with
  |none=>
   have k:=k none
   simp only [boO,Option.getD_none,Option.isSome_none,H26] at k
   simp only [Mt,boO,H26,A0,vv2,vf,reduceCtorEq,Nat.reduceAdd,Nat.reduceEqDiff,Option.getD_none,Option.getD_some,Option.isSome_none,Option.isSome_some,Aa,k,C4]
  |some a=>
   have k:=k (some a)
   simp only [boO,Option.getD_some,Option.isSome_some,H26] at k
   simp only [Mt,boO,H26,A0,vv2,vf,reduceCtorEq,Nat.reduceAdd,Nat.reduceEqDiff,Option.getD_none,Option.getD_some,Option.isSome_none,Option.isSome_some,Aa,k,C4]
 ·cases o with
  |none=>
   have k:=k (some s.snd.due)
   simp only [boO,Option.getD_some,Option.isSome_some,H26] at k
   simp only [Mt,boO,H26,A0,vv2,vf,reduceCtorEq,Nat.reduceAdd,Nat.reduceEqDiff,Option.getD_none,Option.getD_some,Option.isSome_none,Option.isSome_some,Aa,k,C4]
  |some a=>
   by_cases hq:s.snd.due<a
   ·have k:=k (some s.snd.due)
    simp only [boO,Option.getD_some,Option.isSome_some,H26] at k
    simp only [Mt,boO,H26,A0,vv2,vf,reduceCtorEq,Nat.reduceAdd,Nat.reduceEqDiff,Option.getD_none,Option.getD_some,Option.isSome_none,Option.isSome_some,Aa,k,C4,hq]
   ·have k:=k (some a)
    simp only [boO,Option.getD_some,Option.isSome_some,H26] at k
    simp only [Mt,boO,H26,A0,vv2,vf,reduceCtorEq,Nat.reduceAdd,Nat.reduceEqDiff,Option.getD_none,Option.getD_some,Option.isSome_none,Option.isSome_some,Aa,k,C4,hq]
theorem nx4_26 (n:Nat) (again:List AV×Heap→Option (List Tree)) (g:Gh) (s:Ses) (e:List AV) (o:Option Int) (he:s.entered<10000) :
  Tp n (fI C n) again (e,H26 E0 E0 E0 g s (boO o))=again (Eb (C4 o (if s.snd.st=1 then some s.snd.due else none)),H26 E0 E0 E0 g s []):=by
 have q:¬(10000:Int)≤s.entered:=by omega
 have k:=nx3_26 n again g s e o (boO o)
 by_cases h:s.snd.st=1
 ·have k:=k true
  simp only [boO,H26] at k
  simp only [Tp,boO,H26,A0,vv2,vf,reduceCtorEq,Nat.reduceAdd,Nat.reduceEqDiff,h,beq_self_eq_true,q,k]
 ·have k:=k false
  have h':(s.snd.st==1)=false:=by simpa using h
  simp only [boO,H26] at k
  simp only [Tp,boO,H26,A0,vv2,vf,reduceCtorEq,Nat.reduceAdd,Nat.reduceEqDiff,h,h',k]
theorem nx5_26 (g:Gh) (s:Ses) (e:List AV) (o:Option Int) (he:s.entered<10000) (hr:CL s.rep) :
  Ev fun n=>∀again,OE n (fI C n) again (e,H26 E0 E0 E0 g s (boO o))=again (Eb (C4 (C4 o (BE s.rep)) (if s.snd.st=1 then some s.snd.due else none)),H26 E0 E0 E0 g s []):=by
 refine (Ga s.rep hr).mono fun n h again => ?_
 have k:=fun o=>nx4_26 n again g s [] o he
 simp only [B8.enc] at h
 cases hn:BE s.rep with
 |none=>
  have k:=k o
  rw [hn] at h
  simp only [FK] at h
  simp only [boO,H26] at k
  simp only [OE,boO,H26,A0,vv2,vf,reduceCtorEq,Nat.reduceAdd,Nat.reduceEqDiff,h,k]
  cases o<;>rfl
 |some a=>
  rw [hn] at h
  simp only [FK] at h
  cases o with
  |none=>
   have k:=k (some a)
   simp only [boO,H26,Option.getD_some,Option.isSome_some] at k
   simp only [OE,boO,H26,A0,vv2,vf,reduceCtorEq,Nat.reduceAdd,Nat.reduceEqDiff,Option.getD_none,Option.isSome_none,h,k,C4]
  |some b=>
   by_cases hq:a<b
   ·have k:=k (some a)
    simp only [boO,H26,Option.getD_some,Option.isSome_some] at k
    simp only [OE,boO,H26,A0,vv2,vf,reduceCtorEq,Nat.reduceAdd,Nat.reduceEqDiff,Option.getD_some,Option.isSome_some,h,k,C4,hq]
   ·have k:=k (some b)
    simp only [boO,H26,Option.getD_some,Option.isSome_some] at k
    simp only [OE,boO,H26,A0,vv2,vf,reduceCtorEq,Nat.reduceAdd,Nat.reduceEqDiff,Option.getD_some,Option.isSome_some,h,k,C4,hq]
theorem nx6_26 (g:Gh) (s:Ses) (e:List AV) (o:Option Int) (he:s.entered<10000) (hd:CL s.dat) (hr:CL s.rep) :
  Ev fun n=>∀again,OD n (fI C n) again (e,H26 E0 E0 E0 g s (boO o))=again (Eb (C4 (C4 (C4 o (BE s.dat)) (BE s.rep)) (if s.snd.st=1 then some s.snd.due else none)),H26 E0 E0 E0 g s []):=by
 have key:=fun o=>nx5_26 g s [] o he hr
 cases hn:BE s.dat with
 |none=>
  refine ((Ga s.dat hd).and (key o)).mono fun n h again => ?_
  obtain ⟨h,k⟩:=h
  have k:=k again
  simp only [B8.enc,hn,FK] at h
  simp only [boO,H26] at k
  simp only [OD,boO,H26,A0,vv2,vf,reduceCtorEq,Nat.reduceAdd,Nat.reduceEqDiff,h,k]
  cases o<;>rfl
 |some a=>
  cases o with
  |none=>
   refine ((Ga s.dat hd).and (key (some a))).mono fun n h again => ?_
   obtain ⟨h,k⟩:=h
   have k:=k again
   simp only [B8.enc,hn,FK] at h
   simp only [boO,H26,Option.getD_some,Option.isSome_some] at k
   simp only [OD,boO,H26,A0,vv2,vf,reduceCtorEq,Nat.reduceAdd,Nat.reduceEqDiff,Option.getD_none,Option.isSome_none,h,k,C4]
  |some b=>
   by_cases hq:a<b
   ·refine ((Ga s.dat hd).and (key (some a))).mono fun n h again => ?_
    obtain ⟨h,k⟩:=h
    have k:=k again
    simp only [B8.enc,hn,FK] at h
    simp only [boO,H26,Option.getD_some,Option.isSome_some] at k
    simp only [OD,boO,H26,A0,vv2,vf,reduceCtorEq,Nat.reduceAdd,Nat.reduceEqDiff,Option.getD_some,Option.isSome_some,h,k,C4,hq]
   ·refine ((Ga s.dat hd).and (key (some b))).mono fun n h again => ?_
    obtain ⟨h,k⟩:=h
    have k:=k again
    simp only [B8.enc,hn,FK] at h
    simp only [boO,H26,Option.getD_some,Option.isSome_some] at k
    simp only [OD,boO,H26,A0,vv2,vf,reduceCtorEq,Nat.reduceAdd,Nat.reduceEqDiff,Option.getD_some,Option.isSome_some,h,k,C4,hq]
theorem nx_26 (g:Gh) (s:Ses) (f1 f2 f3:AG) (he:s.entered<10000) (hd:CL s.dat) (hr:CL s.rep) :
  Ev fun n=>∀again,Tt n (fI C n) again ([.ptr 7 0],H26 f1 f2 f3 g s [])=again (Eb (nxS s),H26 E0 E0 E0 g s []):=by
 have q:¬(10000:Int)≤s.entered:=by omega
 have key:=nx6_26 g s [] (s.pend.head?.map (·.at_)) he hd hr
 refine key.mono fun n k again => ?_
 have k:=k again
 have e1:∀(o:Out) (l:List Out),s.pend=o::l→(g.pre++List.map Out.enc s.pend)[g.pre.length]? = some o.enc:=by
  intro o l h
  rw [List.getElem?_append_right (Nat.le_refl _),h]
  simp
 unfold nxS
 cases hp:s.pend with
 |nil=>
  simp only [hp,List.head?_nil,Option.map_none,boO,H26,Option.getD_none,Option.isSome_none,List.map_nil] at k
  simp only [VA,Tk,Wm,H26,hp,List.map_nil,A0,vv2,vf,reduceCtorEq,Nat.reduceAdd,Nat.reduceEqDiff,q,Int.lt_irrefl,Int.natCast_zero,k,List.head?_nil,Option.map_none]
 |cons o l=>
  have e1:=e1 o l hp
  simp only [hp] at e1
  simp only [hp,List.head?_cons,Option.map_some,boO,H26,Option.getD_some,Option.isSome_some] at k
  simp only [VA,Tk,Wm,J26_1,H26,hp,A0,vv2,vf,reduceCtorEq,Nat.reduceAdd,Nat.reduceEqDiff,q,(show (0:Int)<((l.length+1:Nat):Int) by omega),e1,Out.enc,k,List.head?_cons,Option.map_some,Int.le_refl]
end Ab
set_option linter.unusedVariables false
set_option linter.unusedSimpArgs false
set_option maxRecDepth 100000
namespace Ab
open Go
theorem ex_26 (g:Gh) (s:Ses) (f1 f2 f3:AG) (he:s.entered<10000) (ha:s.snd.acked.length≤100) (hl:s.pend.length≤1000000)
  (hw:s.snd.st=1→s.snd.due=s.now→(Ct s.snd s.now).2.2=0∧(Ct s.snd s.now).2.1.length≤1000000) :
  Ev fun n=>∀again,W5 n (fI C n) again ([.ptr 7 0],H26 f1 f2 f3 g s [])=again ([],H26 E0 E0 E0 (exG g s) (exS s) []):=by
 have q:¬(10000:Int)≤s.entered:=by omega
 by_cases h1:s.snd.st=1
 ·by_cases h2:s.snd.due=s.now
  ·obtain ⟨w1,w2⟩:=hw h1 h2
   have e1:exS s={s with snd:=(Ct s.snd s.now).1,pend:=s.pend++(Ct s.snd s.now).2.1}:=by simp only [exS,h1,h2,and_self,if_true]
   have e2:exG g s={g with v0:=g.v0+1,pre:=[]}:=by simp only [exG,h1,h2,and_self,if_true]
   rw [e1,e2]
   refine (s149 s.snd s.now ha).mono fun n h again => ?_
   simp only [De,w1,Snd.enc,List.cons_append,List.nil_append,h1,h2] at h
   generalize Ct s.snd s.now=w at h w1 w2 ⊢
   obtain ⟨a,o,e⟩:=w
   simp only at h w1 w2 ⊢
   have q2:¬g.pre.length+s.pend.length<g.pre.length+s.pend.length:=by omega
   have q3:s.pend.length+o.length≤1073741824:=by omega
   have q4:List.take s.pend.length (List.map Out.enc s.pend)=List.map Out.enc s.pend:=List.take_of_length_le (by simp)
   simp only [RI,RA,To,Tn,H26,A0,vv2,vf,reduceCtorEq,Nat.reduceAdd,Nat.reduceEqDiff,h1,h2,h,q,beq_self_eq_true,bne_self_eq_false,List.length_append,q2,q3,q4,Ia,List.drop_left,List.map_append,Nat.le_refl,List.nil_append]
  ·have h2':(s.snd.due != s.now)=true:=by simpa using h2
   have e1:exS s=s:=by simp only [exS,h2,and_false,if_false]
   have e2:exG g s=g:=by simp only [exG,h2,and_false,if_false]
   rw [e1,e2]
   refine Ev.of fun n again => ?_
   simp only [RI,RA,To,Tn,H26,A0,vv2,vf,reduceCtorEq,Nat.reduceAdd,Nat.reduceEqDiff,h1,h2',q,beq_self_eq_true]
 ·have h1':(s.snd.st==1)=false:=by simpa using h1
  have e1:exS s=s:=by simp only [exS,h1,false_and,if_false]
  have e2:exG g s=g:=by simp only [exG,h1,false_and,if_false]
  rw [e1,e2]
  refine Ev.of fun n again => ?_
  simp only [RI,RA,To,Tn,H26,A0,vv2,vf,reduceCtorEq,Nat.reduceAdd,Nat.reduceEqDiff,h1']
def Jh (q:Gh×Ses):Rd (Gh×Ses) (Gh×Ses):=
 match q.2.pend with
 |[]=>.done q
 |o::l=>if o.at_=q.2.now then .next ({q.1 with v4:=q.1.v4+1,pre:=q.1.pre++[o.enc]},{Dq q.2 o.seg with pend:=l}) else .done q
theorem tx_26 (g:Gh) (s:Ses) (f1 f2 f3:AG) (hb:Bud s.pend.length s) :
  Ev fun n=>∀again,Wz n (fI C n) again ([.ptr 7 0],H26 f1 f2 f3 g s [])=again ([],H26 E0 E0 E0 (txT s.pend.length (g,s)).1 (txS s.pend.length s) []):=by
 have key:=C2 (R:=List Tree) (Z:=List AV×Heap→Option (List Tree)) (Q:=Gh×Ses)
  (B:=fun n z p again=>Mr n (fI C n) ([.ptr 7 0],H26 f1 f2 f3 g s []) z p again)
  (s:=(([],H26 E0 E0 E0 g s []):List AV×Heap)) (r:=txT s.pend.length (g,s))
  (fun z q=>z ([],H26 E0 E0 E0 q.1 q.2 [])) (fun q:Gh×Ses=>(([],H26 E0 E0 E0 q.1 q.2 []):List AV×Heap)) Jh (fun q=>Bud q.2.pend.length q.2) (fun q=>q.2.pend.length) (fun q=>txT q.2.pend.length q) (g,s) rfl hb rfl
  (fun q hI => ?_) (fun q q' hI hs => ?_) (fun q hI => ?_)
 ·refine key.mono fun n h again => ?_
  have h:=h again
  rw [Sj] at h
  simp only [H26] at h
  simp only [tC26_7,Wc,H26,A0,h]
 ·obtain ⟨g1,s1⟩:=q
  simp only at hI ⊢
  have e1:∀(o:Out) (l:List Out),s1.pend=o::l→(g1.pre++List.map Out.enc s1.pend)[g1.pre.length]? = some o.enc:=by
   intro o l h
   rw [List.getElem?_append_right (Nat.le_refl _),h]
   simp
  cases hp:s1.pend with
  |nil=>
   refine Ev.of fun n z again => ?_
   simp only [Jh,Mr,PF,H26,hp,A0,vv2,vf,reduceCtorEq,Nat.reduceAdd,Nat.reduceEqDiff,Int.natCast_zero,Int.lt_irrefl,Rd.BQ,List.map_nil]
  |cons o l=>
   have e1:=e1 o l hp
   by_cases ho:o.at_=s1.now
   ·rw [hp] at hI
    have k:=entD_26 g1 s1 o.seg (.row true (AG.ver f1) 15 (Ba f1)) (.row true (AG.ver f2) 4 (Ba f2)) (.row true (AG.ver f3) 4 (Ba f3)) (Bud.eD hI)
    refine k.mono fun n h z again => ?_
    simp only [Cy,H26] at h
    have h2:=fun again=>h again
    have ep:(Dq s1 o.seg).pend=o::l:=hp
    have q1:(1:Int)≤((l.length+1:Nat):Int):=by omega
    have q2:=ucP_26 {g1 with v4:=g1.v4+1} (Dq s1 o.seg) o l ep
    rw [ep] at q2
    simp only [List.length_cons,Nat.add_sub_cancel] at q2
    have e2:(g1.pre++List.map Out.enc (o::l))[g1.pre.length]? = some [tI s1.now,tI o.seg.kind,tI o.seg.ses,tI o.seg.ser,tI o.seg.off,tI o.seg.tot,.bool o.seg.chk,.str o.seg.data,.sl 2 (o.seg.AW.map Span.enc)]:=by
     rw [hp] at e1
     rw [e1,← ho]
     rfl
    simp only [ep,hp] at h2
    simp only [Jh,Mr,PF,Wp,H26,hp,ep,ho,A0,vv2,vf,reduceCtorEq,Nat.reduceAdd,Nat.reduceEqDiff,(show (0:Int)<((l.length+1:Nat):Int) by omega),Int.le_refl,e2,beq_self_eq_true,Rd.Az,h2,q1,Nat.add_sub_cancel,q2,(show (0:Int)≤1 by omega)]
    simp only [List.map_cons,List.append_assoc,List.cons_append,List.nil_append]
   ·have ho':(o.at_==s1.now)=false:=by simpa using ho
    refine Ev.of fun n z again => ?_
    have e2:(g1.pre++List.map Out.enc (o::l))[g1.pre.length]? = some [tI o.at_,tI o.seg.kind,tI o.seg.ses,tI o.seg.ser,tI o.seg.off,tI o.seg.tot,.bool o.seg.chk,.str o.seg.data,.sl 2 (o.seg.AW.map Span.enc)]:=by
     rw [hp] at e1
     rw [e1]
     rfl
    simp only [Jh,Mr,PF,H26,hp,ho,ho',A0,vv2,vf,reduceCtorEq,Nat.reduceAdd,Nat.reduceEqDiff,(show (0:Int)<((l.length+1:Nat):Int) by omega),Int.le_refl,e2,Rd.BQ]
 ·obtain ⟨g1,s1⟩:=q
  unfold Jh at hs
  simp only at hI hs ⊢
  cases hp:s1.pend with
  |nil=>rw [hp] at hs;cases hs
  |cons o l=>
   rw [hp] at hs hI
   simp only at hs
   split at hs
   ·cases hs
    refine ⟨?_,by simp⟩
    exact (Bud.Dq hI o.seg).of rfl rfl rfl rfl rfl rfl rfl rfl
   ·cases hs
 ·obtain ⟨g1,s1⟩:=q
  unfold Jh
  simp only
  cases hp:s1.pend with
  |nil=>simp [txT,Rd.fin]
  |cons o l=>
   simp only [List.length_cons,txT,hp]
   split
   ·rfl
   ·simp [Rd.fin,txT,hp, *]
end Ab
set_option linter.unusedVariables false
set_option linter.unusedSimpArgs false
set_option maxRecDepth 100000
namespace Ab
open Go
def Ay (g:Gh) (s:Ses) (v:Nat) (o:Option Seg):List AV×Heap:=([.rptr 8 v 0 0,.t (.bool o.isSome)],H26 E0 E0 E0 g s [.row false v 8 [(o.getD IX).enc]])
theorem U7 (g:Gh) (s:Ses) (v:Nat) (y:Seg) (hr:CL s.rep) :
  Ev fun n=>∀again e1 hp,Mv n (fI C n) ((.rptr 8 v 0 0::e1),hp) again ([],H26 E0 E0 E0 g s [.row false v 8 [y.enc]])=again (Ay g (Cv s).1 (v+1) (Cv s).2):=by
 cases hf:s.rep.frames with
 |nil=>
  have hn:BE s.rep=none:=by simp [BE,hf]
  rw [show Cv s=(s,none) by simp only [Cv,hf]]
  refine (Ga s.rep hr).mono fun n h again e1 hp => ?_
  rw [hn] at h
  simp only [B8.enc,FK] at h
  simp only [Ay,Mv,PJ,H26,A0,vv2,vf,reduceCtorEq,Nat.reduceAdd,Nat.reduceEqDiff,List.getElem?_cons_zero,Seg.enc,h,Option.isSome_none,Option.getD_none,IX,List.map_nil,List.set_cons_zero,List.drop_succ_cons,List.drop_nil,List.append_nil,Nat.le_refl]
 |cons f l=>
  have hn:BE s.rep=some f.arr:=by simp [BE,hf]
  by_cases ha:f.arr=s.now
  ·rw [show Cv s=(Bf s,some f.seg) by simp only [Cv,hf,ha,if_true]]
   refine ((Ga s.rep hr).and (s158 s.rep hr f l hf)).mono fun n h again e1 hp => ?_
   obtain ⟨h,h2⟩:=h
   rw [hn,ha] at h
   simp only [B8.enc,FK] at h h2
   have hx:Bf s={s with rep:=⟨s.rep.rng,l,s.rep.sent,s.rep.lost⟩}:=by simp only [Bf,hf,List.tail_cons]
   simp only [hx,Ay,Mv,PJ,H26,A0,vv2,vf,reduceCtorEq,Nat.reduceAdd,Nat.reduceEqDiff,List.getElem?_cons_zero,Seg.enc,h,h2,bne_self_eq_false,Option.isSome_some,Option.getD_some,List.set_cons_zero,List.drop_succ_cons,List.drop_nil,List.append_nil,Nat.le_refl]
  ·have ha':(f.arr != s.now)=true:=by simpa using ha
   rw [show Cv s=(s,none) by simp only [Cv,hf,ha,if_false]]
   refine (Ga s.rep hr).mono fun n h again e1 hp => ?_
   rw [hn] at h
   simp only [B8.enc,FK] at h
   simp only [ha',Ay,Mv,PJ,H26,A0,vv2,vf,reduceCtorEq,Nat.reduceAdd,Nat.reduceEqDiff,List.getElem?_cons_zero,Seg.enc,h,Option.isSome_none,Option.getD_none,IX,List.map_nil,List.set_cons_zero,List.drop_succ_cons,List.drop_nil,List.append_nil,Nat.le_refl]
theorem hr_26 (g:Gh) (s:Ses) (v:Nat) (x:Seg) (hr:CL s.rep) (ha:s.snd.acked.length≤100∧s.pend.length≤1000000) (hx:x.AW.length≤100∨1000<x.AW.length)
  (hw:¬s.now<s.snd.busy→(BU s.snd s.now x).2.2=0∧(BU s.snd s.now x).2.1.length≤1000000) :
  Ev fun n=>∀z again,Ea n (fI C n) z (Ay g s v (some x)) again=again (Ay (lsG g s) (Cv (lsX s x)).1 (v+1) (Cv (lsX s x)).2):=by
 by_cases hb:s.now<s.snd.busy
 ·have e1:lsX s x=s:=by simp only [lsX,hb,if_true]
  have e2:lsG g s=g:=by simp only [lsG,hb,if_true]
  rw [e1,e2]
  refine (U7 g s v x hr).mono fun n h z again => ?_
  simp only [H26] at h
  have hb':decide (s.now<s.snd.busy)=true:=decide_eq_true hb
  simp only [Ay,H26,Option.isSome_some,Option.getD_some] at h ⊢
  simp only [Ea,H26,A0,vv2,vf,reduceCtorEq,Nat.reduceAdd,Nat.reduceEqDiff,hb,IY,Gv,h]
 ·obtain ⟨w1,w2⟩:=hw hb
  have e2:lsG g s=gP g:=by simp only [lsG,hb,if_false]
  have hx2:lsX s x=lsF {s with snd:=(BU s.snd s.now x).1,pend:=s.pend++(BU s.snd s.now x).2.1}:=by simp only [lsX,hb,if_false]
  rw [e2]
  have key:=fun s' (hs:s'.rep=s.rep)=>U7 (gP g) s' v x (by rw [hs];exact hr)
  have q2:¬g.pre.length+s.pend.length<g.pre.length+s.pend.length:=by omega
  have q4:List.take s.pend.length (List.map Out.enc s.pend)=List.map Out.enc s.pend:=List.take_of_length_le (by simp)
  have h148:=s148 s.snd s.now x ha.1 hx
  simp only [De,w1,Snd.enc,Seg.enc,List.cons_append,List.nil_append] at h148
  rw [hx2]
  generalize BU s.snd s.now x=w at h148 w1 w2 ⊢
  obtain ⟨a,o,e⟩:=w
  simp only at h148 w1 w2 ⊢
  have q3:s.pend.length+o.length≤1073741824:=by omega
  by_cases hk:s.kno=false∧a.st=2
  ·have e3:lsF {s with snd:=a,pend:=s.pend++o}={s with snd:=a,pend:=s.pend++o,kno:=true,knoAt:=s.now}:=by simp only [lsF,hk,and_self,if_true]
   rw [e3]
   refine (h148.and (key {s with snd:=a,pend:=s.pend++o,kno:=true,knoAt:=s.now} rfl)).mono fun n h z again => ?_
   obtain ⟨h,h2⟩:=h
   simp only [H26,gP,List.map_append,List.nil_append] at h2
   have hk1:(!s.kno)=true:=by simp [hk.1]
   have hk2:(a.st==2)=true:=by simp [hk.2]
   simp only [Ay,H26,Option.isSome_some,Option.getD_some,gP,List.map_append,List.nil_append]
   simp only [Ay,H26,Option.isSome_some,Option.getD_some,gP,List.map_append,List.nil_append,Seg.enc] at h2
   simp only [Ea,H26,A0,vv2,vf,reduceCtorEq,Nat.reduceAdd,Nat.reduceEqDiff,hb,hk1,hk2,Seg.enc,List.getElem?_cons_zero,h,bne_self_eq_false,beq_self_eq_true,List.length_append,q2,q3,q4,List.drop_left,Nat.le_refl,LL,h2]
  ·have e3:lsF {s with snd:=a,pend:=s.pend++o}={s with snd:=a,pend:=s.pend++o}:=by simp only [lsF,hk,if_false]
   rw [e3]
   refine (h148.and (key {s with snd:=a,pend:=s.pend++o} rfl)).mono fun n h z again => ?_
   obtain ⟨h,h2⟩:=h
   simp only [H26,gP,List.map_append,List.nil_append] at h2
   simp only [Ay,H26,Option.isSome_some,Option.getD_some,gP,List.map_append,List.nil_append]
   simp only [Ay,H26,Option.isSome_some,Option.getD_some,gP,List.map_append,List.nil_append,Seg.enc] at h2
   rcases Bool.eq_false_or_eq_true s.kno with hk0|hk0
   ·have hk1:(!s.kno)=false:=by simp [hk0]
    simp only [Ea,H26,A0,vv2,vf,reduceCtorEq,Nat.reduceAdd,Nat.reduceEqDiff,hb,hk1,Seg.enc,List.getElem?_cons_zero,h,bne_self_eq_false,beq_self_eq_true,List.length_append,q2,q3,q4,List.drop_left,Nat.le_refl,Ia,h2]
   ·have hk1:(!s.kno)=true:=by simp [hk0]
    have hk2:(a.st==2)=false:=by simpa using fun h=>hk ⟨hk0,h⟩
    simp only [Ea,H26,A0,vv2,vf,reduceCtorEq,Nat.reduceAdd,Nat.reduceEqDiff,hb,hk1,hk2,Seg.enc,List.getElem?_cons_zero,h,bne_self_eq_false,beq_self_eq_true,List.length_append,q2,q3,q4,List.drop_left,Nat.le_refl,Ia,h2]
theorem l16_26:Ea=Ea:=rfl
theorem lp_26 {P:Ses→Prop} (hP:LsP P) (q:LS) (h:q.inv P) :
  Ev fun n=>∀z,AJ (fun p again=>Ea n (fI C n) z p again) n (Ay q.g q.s q.v q.o)=z ([],H26 E0 E0 E0 q.res.1 q.res.2 []):=by
 refine C2 (R:=List Tree) (Z:=List AV×Heap→Option (List Tree)) (Q:=Gh×Ses) (B:=fun n z p again=>Ea n (fI C n) z p again) (r:=q.res)
  (fun z r=>z ([],H26 E0 E0 E0 r.1 r.2 [])) (fun q:LS=>Ay q.g q.s q.v q.o) LS.step (LS.inv P) (fun q=>q.s.rep.frames.length+(if q.o.isSome then 1 else 0)) LS.res q rfl h rfl
  (fun q hI => ?_) (fun q q' hI hs=>LS.sound hP q q' hI hs) (fun q hI=>LS.fin hP q hI)
 obtain ⟨g,s,v,o⟩:=q
 cases o with
 |none=>
  refine Ev.of fun n z again => ?_
  simp only [Ay,Option.isSome_none,Ea,H26,A0,vv2,vf,reduceCtorEq,Nat.reduceAdd,Nat.reduceEqDiff,LS.step,Rd.BQ]
 |some x=>
  obtain ⟨h1,h2,h3,h4,h5⟩:=hI
  refine (hr_26 g s v x h1 h2 h3 h4).mono fun n h z again => ?_
  simp only [LS.step,Rd.Az]
  exact h z again
theorem ls_26 {P:Ses→Prop} (hP:LsP P) (g:Gh) (s:Ses) (f1 f2 f3:AG) (h:P s) :
  Ev fun n=>∀again,W4 n (fI C n) again ([.ptr 7 0],H26 f1 f2 f3 g s [])=again ([],H26 E0 E0 E0 (lsT s.rep.frames.length (g,s)).1 (lsS s.rep.frames.length s) []):=by
 have hr:=hP.rep s h
 obtain ⟨i1,i2⟩:=LS.take hP h g 0
 have key:=lp_26 hP _ i1
 rw [i2,TI] at key
 simp only at key
 cases hf:s.rep.frames with
 |nil=>
  have hn:BE s.rep=none:=by simp [BE,hf]
  have e:Cv s=(s,none):=by simp only [Cv,hf]
  rw [e] at key
  rw [hf] at key
  refine ((Ga s.rep hr).and key).mono fun n h again => ?_
  obtain ⟨h,k⟩:=h
  rw [hn] at h
  simp only [B8.enc,FK] at h
  have k:=k again
  simp only [Ay,H26,Option.isSome_none,Option.getD_none,IX,Seg.enc,List.map_nil] at k
  simp only [RH,Q9,PI,H26,A0,vv2,vf,reduceCtorEq,Nat.reduceAdd,Nat.reduceEqDiff,h,k]
 |cons f l=>
  have hn:BE s.rep=some f.arr:=by simp [BE,hf]
  by_cases ha:f.arr=s.now
  ·have e:Cv s=(Bf s,some f.seg):=by simp only [Cv,hf,ha,if_true]
   rw [e] at key
   rw [hf] at key
   refine ((Ga s.rep hr).and ((s158 s.rep hr f l hf).and key)).mono fun n h again => ?_
   obtain ⟨h,h2,k⟩:=h
   rw [hn,ha] at h
   simp only [B8.enc,FK] at h h2
   have hx:Bf s={s with rep:=⟨s.rep.rng,l,s.rep.sent,s.rep.lost⟩}:=by simp only [Bf,hf,List.tail_cons]
   have k:=k again
   simp only [Ay,H26,Option.isSome_some,Option.getD_some,Seg.enc,hx] at k
   simp only [RH,Q9,PI,l16_26,H26,A0,vv2,vf,reduceCtorEq,Nat.reduceAdd,Nat.reduceEqDiff,h,h2,bne_self_eq_false,k]
  ·have ha':(f.arr != s.now)=true:=by simpa using ha
   have e:Cv s=(s,none):=by simp only [Cv,hf,ha,if_false]
   rw [e] at key
   rw [hf] at key
   refine ((Ga s.rep hr).and key).mono fun n h again => ?_
   obtain ⟨h,k⟩:=h
   rw [hn] at h
   simp only [B8.enc,FK] at h
   have k:=k again
   simp only [Ay,H26,Option.isSome_none,Option.getD_none,IX,Seg.enc,List.map_nil] at k
   simp only [RH,Q9,PI,H26,A0,vv2,vf,reduceCtorEq,Nat.reduceAdd,Nat.reduceEqDiff,h,ha',k]
end Ab
set_option linter.unusedVariables false
set_option linter.unusedSimpArgs false
set_option maxRecDepth 100000
namespace Ab
open Go
theorem tkD_26 (g:Gh) (s:Ses) (v:Nat) (y:Seg) (hr:CL s.dat) :
  Ev fun n=>∀again e1 hp,Mu n (fI C n) ((.rptr 8 v 0 0::e1),hp) again ([],H26 E0 E0 E0 g s [.row false v 8 [y.enc]])=again (Ay g (Cw s).1 (v+1) (Cw s).2):=by
 cases hf:s.dat.frames with
 |nil=>
  have hn:BE s.dat=none:=by simp [BE,hf]
  rw [show Cw s=(s,none) by simp only [Cw,hf]]
  refine (Ga s.dat hr).mono fun n h again e1 hp => ?_
  rw [hn] at h
  simp only [B8.enc,FK] at h
  simp only [Ay,Mu,PH,H26,A0,vv2,vf,reduceCtorEq,Nat.reduceAdd,Nat.reduceEqDiff,List.getElem?_cons_zero,Seg.enc,h,Option.isSome_none,Option.getD_none,IX,List.map_nil,List.set_cons_zero,List.drop_succ_cons,List.drop_nil,List.append_nil,Nat.le_refl]
 |cons f l=>
  have hn:BE s.dat=some f.arr:=by simp [BE,hf]
  by_cases ha:f.arr=s.now
  ·rw [show Cw s=(A6 s,some f.seg) by simp only [Cw,hf,ha,if_true]]
   refine ((Ga s.dat hr).and (s158 s.dat hr f l hf)).mono fun n h again e1 hp => ?_
   obtain ⟨h,h2⟩:=h
   rw [hn,ha] at h
   simp only [B8.enc,FK] at h h2
   have hx:A6 s={s with dat:=⟨s.dat.rng,l,s.dat.sent,s.dat.lost⟩}:=by simp only [A6,hf,List.tail_cons]
   simp only [hx,Ay,Mu,PH,H26,A0,vv2,vf,reduceCtorEq,Nat.reduceAdd,Nat.reduceEqDiff,List.getElem?_cons_zero,Seg.enc,h,h2,bne_self_eq_false,Option.isSome_some,Option.getD_some,List.set_cons_zero,List.drop_succ_cons,List.drop_nil,List.append_nil,Nat.le_refl]
  ·have ha':(f.arr != s.now)=true:=by simpa using ha
   rw [show Cw s=(s,none) by simp only [Cw,hf,ha,if_false]]
   refine (Ga s.dat hr).mono fun n h again e1 hp => ?_
   rw [hn] at h
   simp only [B8.enc,FK] at h
   simp only [ha',Ay,Mu,PH,H26,A0,vv2,vf,reduceCtorEq,Nat.reduceAdd,Nat.reduceEqDiff,List.getElem?_cons_zero,Seg.enc,h,Option.isSome_none,Option.getD_none,IX,List.map_nil,List.set_cons_zero,List.drop_succ_cons,List.drop_nil,List.append_nil,Nat.le_refl]
theorem rp_26 (g:Gh) (s:Ses) (v:Nat) (x:Seg) (r:Rcv) (l:List Seg) (y:List Tree) (hy:gL y 4=l.map Seg.enc) (f1 f2 f3:AG) (e00:List AV) (g00:Gh) (s00:Ses) (hb:Bud l.length s) :
  Ev fun n=>∀z,AJ (fun p again=>IP n (fI C n) y (e00,H26 f1 f2 f3 g00 s00 []) z p again) n ([.t (tI 0)],H26 E0 E0 E0 g s [.row false v 8 [x.enc],Pt r])=z ([],H26 E0 E0 E0 {g with v5:=g.v5+l.length} (rxF (l.foldl Cd s)) [.row false v 8 [x.enc]]):=by
 have key:=L0 (R:=List Tree) (Z:=List AV×Heap→Option (List Tree)) (Q:=Gh×Ses) (B:=fun n z p again=>IP n (fI C n) y (e00,H26 f1 f2 f3 g00 s00 []) z p again)
  (s:=(([.t (tI 0)],H26 E0 E0 E0 g s [.row false v 8 [x.enc],Pt r]):List AV×Heap)) (r:=({g with v5:=g.v5+l.length},l.foldl Cd s)) l
  (fun i (q:Gh×Ses)=>(([.t (tI i)],H26 E0 E0 E0 q.1 q.2 [.row false v 8 [x.enc],Pt r]):List AV×Heap)) (fun _ q y =>.next ({q.1 with v5:=q.1.v5+1},Cd q.2 y)) (fun q=>q)
  (fun z q=>z ([],H26 E0 E0 E0 q.1 (rxF q.2) [.row false v 8 [x.enc]])) (fun i q=>Bud (l.length-i) q.2) (g,s) rfl hb ?_
  (fun i q w hx hI => ?_) (fun i q w q' hx hI hs => ?_) (fun q hI => ?_)
 ·exact key
 ·rw [FU,V0]
 ·have hi:=Ao hx
  obtain ⟨g1,s1⟩:=q
  have hI':Bud (l.length-(i+1)+1) s1:=by
   have:l.length-(i+1)+1=l.length-i:=by omega
   rw [this];exact hI
  have k:=entR_26 g1 s1 w (.row true (AG.ver f1) 15 (Ba f1)) (.row true (AG.ver f2) 4 (Ba f2)) (.row true (AG.ver f3) 4 (Ba f3)) hI'.eR v [x.enc] r.ses r.tot (r.known.map Span.enc) r.data w
  refine k.mono fun n h z again => ?_
  have h:=fun again=>h again
  simp only [Cy,H26] at h
  simp only [IP,SQ,Pt,H26,hy,A0,vv2,vf,reduceCtorEq,Nat.reduceAdd,Nat.reduceEqDiff,hx,Seg.enc,(show (i:Int)<(l.length:Int) by omega),BM (show i<4611686018427387904 by have:=hb.ent;omega),Rd.Az,IY,Gv]
  simp only [Seg.enc] at h
  simp only [h,SQ,A0,vv2,vf,reduceCtorEq,Nat.reduceAdd,Nat.reduceEqDiff,BM (show i<4611686018427387904 by have:=hb.ent;omega)]
 ·cases hs
  have hi:=Ao hx
  have:l.length-i=l.length-(i+1)+1:=by omega
  rw [this] at hI
  exact hI.Cd w
 ·obtain ⟨g1,s1⟩:=q
  rcases Bool.eq_false_or_eq_true s1.rcvd with hr|hr
  ·have hr1:(!s1.rcvd)=false:=by simp [hr]
   have e:rxF s1=s1:=by simp only [rxF,hr,Bool.true_eq_false,false_and,if_false]
   rw [e]
   refine Ev.of fun n z again => ?_
   simp only [IP,Pt,H26,hy,A0,vv2,vf,reduceCtorEq,Nat.reduceAdd,Nat.reduceEqDiff,Int.lt_irrefl,hr1]
  ·have hr1:(!s1.rcvd)=true:=by simp [hr]
   refine (s147 s1.rcv).mono fun n h z again => ?_
   simp only [Rcv.enc] at h
   rcases Bool.eq_false_or_eq_true (Av s1.rcv) with hc|hc
   ·have e:rxF s1={s1 with rcvd:=true,arrive:=s1.now}:=by simp only [rxF,hr,hc,and_self,if_true]
    rw [e]
    simp only [IP,Pt,H26,hy,A0,vv2,vf,reduceCtorEq,Nat.reduceAdd,Nat.reduceEqDiff,Int.lt_irrefl,hr1,h,hc]
   ·have e:rxF s1=s1:=by simp only [rxF,hc,Bool.false_eq_true,and_false,if_false]
    rw [e]
    simp only [IP,Pt,H26,hy,A0,vv2,vf,reduceCtorEq,Nat.reduceAdd,Nat.reduceEqDiff,Int.lt_irrefl,hr1,h,hc]
theorem hd_26 (g:Gh) (s:Ses) (v:Nat) (x:Seg) (f1 f2 f3:AG) (e00:List AV) (g00:Gh) (s00:Ses) (hd:CL s.dat) (hw:(Eh s.rcv x).2.2=0) (hb:Bud (Eh s.rcv x).2.1.length s) :
  Ev fun n=>∀z again,F7 n (fI C n) (e00,H26 f1 f2 f3 g00 s00 []) z (Ay g s v (some x)) again=again (Ay (rxG g s x) (Cw (rxX s x)).1 (v+1) (Cw (rxX s x)).2):=by
 have key:=tkD_26 (rxG g s x) (rxX s x) v x (by rw [E8];exact hd)
 have k146:=s146 s.rcv x
 unfold rxG rxX rxH at key ⊢
 generalize Eh s.rcv x=w at hw hb k146 key ⊢
 obtain ⟨a,l,e⟩:=w
 simp only at hw hb key ⊢
 subst hw
 have kl:=rp_26 g {s with rcv:=a} v x a l [tI a.ses,tI a.tot,.sl 2 (a.known.map Span.enc),.str a.data,.sl 8 (l.map Seg.enc),tI 0] rfl f1 f2 f3 e00 g00 s00 (hb.of rfl rfl rfl rfl rfl rfl rfl rfl)
 simp only [hearT,Rcv.enc,Seg.enc,List.cons_append,List.nil_append] at k146
 refine (k146.and (kl.and key)).mono fun n h z again => ?_
 obtain ⟨h,h2,h3⟩:=h
 have h3:=fun e1 hp=>h3 again e1 hp
 simp only [Ay,H26,Option.isSome_some,Option.getD_some,Pt,Seg.enc] at h2 h3 ⊢
 simp only [F7,H26,A0,vv2,vf,reduceCtorEq,Nat.reduceAdd,Nat.reduceEqDiff,IY,Gv,List.getElem?_cons_zero,h,bne_self_eq_false,h2,h3]
theorem l32_26:F7=F7:=rfl
theorem dp_26 {P:Ses→Prop} (hP:RxP P) (q:RS) (h:q.inv P) (f1 f2 f3:AG) (e00:List AV) (g00:Gh) (s00:Ses) :
  Ev fun n=>∀z,AJ (fun p again=>F7 n (fI C n) (e00,H26 f1 f2 f3 g00 s00 []) z p again) n (Ay q.g q.s q.v q.o)=z ([],H26 E0 E0 E0 q.res.1 q.res.2 []):=by
 refine C2 (R:=List Tree) (Z:=List AV×Heap→Option (List Tree)) (Q:=Gh×Ses) (B:=fun n z p again=>F7 n (fI C n) (e00,H26 f1 f2 f3 g00 s00 []) z p again) (r:=q.res)
  (fun z r=>z ([],H26 E0 E0 E0 r.1 r.2 [])) (fun q:RS=>Ay q.g q.s q.v q.o) RS.step (RS.inv P) (fun q=>q.s.dat.frames.length+(if q.o.isSome then 1 else 0)) RS.res q rfl h rfl
  (fun q hI => ?_) (fun q q' hI hs=>RS.sound hP q q' hI hs) (fun q hI=>RS.fin hP q hI)
 obtain ⟨g,s,v,o⟩:=q
 cases o with
 |none=>
  refine Ev.of fun n z again => ?_
  simp only [Ay,Option.isSome_none,F7,H26,A0,vv2,vf,reduceCtorEq,Nat.reduceAdd,Nat.reduceEqDiff,RS.step,Rd.BQ]
 |some x=>
  obtain ⟨h1,h2,h3,h4⟩:=hI
  refine (hd_26 g s v x f1 f2 f3 e00 g00 s00 h1 h2 h3).mono fun n h z again => ?_
  simp only [RS.step,Rd.Az]
  exact h z again
theorem rx_26 {P:Ses→Prop} (hP:RxP P) (g:Gh) (s:Ses) (f1 f2 f3:AG) (h:P s) :
  Ev fun n=>∀again,W2 n (fI C n) again ([.ptr 7 0],H26 f1 f2 f3 g s [])=again ([],H26 E0 E0 E0 (rxT s.dat.frames.length (g,s)).1 (rxS s.dat.frames.length s) []):=by
 have hr:=hP.dat s h
 obtain ⟨i1,i2⟩:=RS.take hP h g 0
 have key:=dp_26 hP _ i1 f1 f2 f3 [.ptr 7 0] g s
 rw [i2,Sw] at key
 simp only at key
 cases hf:s.dat.frames with
 |nil=>
  have hn:BE s.dat=none:=by simp [BE,hf]
  have e:Cw s=(s,none):=by simp only [Cw,hf]
  rw [e] at key
  rw [hf] at key
  refine ((Ga s.dat hr).and key).mono fun n h again => ?_
  obtain ⟨h,k⟩:=h
  rw [hn] at h
  simp only [B8.enc,FK] at h
  have k:=k again
  simp only [Ay,H26,Option.isSome_none,Option.getD_none,IX,Seg.enc,List.map_nil] at k
  simp only [RG,Q8,PG,H26,A0,vv2,vf,reduceCtorEq,Nat.reduceAdd,Nat.reduceEqDiff,h,k]
 |cons f l=>
  have hn:BE s.dat=some f.arr:=by simp [BE,hf]
  by_cases ha:f.arr=s.now
  ·have e:Cw s=(A6 s,some f.seg):=by simp only [Cw,hf,ha,if_true]
   rw [e] at key
   rw [hf] at key
   refine ((Ga s.dat hr).and ((s158 s.dat hr f l hf).and key)).mono fun n h again => ?_
   obtain ⟨h,h2,k⟩:=h
   rw [hn,ha] at h
   simp only [B8.enc,FK] at h h2
   have hx:A6 s={s with dat:=⟨s.dat.rng,l,s.dat.sent,s.dat.lost⟩}:=by simp only [A6,hf,List.tail_cons]
   have k:=k again
   simp only [Ay,H26,Option.isSome_some,Option.getD_some,Seg.enc,hx] at k
   simp only [RG,Q8,PG,l32_26,H26,A0,vv2,vf,reduceCtorEq,Nat.reduceAdd,Nat.reduceEqDiff,h,h2,bne_self_eq_false,k]
  ·have ha':(f.arr != s.now)=true:=by simpa using ha
   have e:Cw s=(s,none):=by simp only [Cw,hf,ha,if_false]
   rw [e] at key
   rw [hf] at key
   refine ((Ga s.dat hr).and key).mono fun n h again => ?_
   obtain ⟨h,k⟩:=h
   rw [hn] at h
   simp only [B8.enc,FK] at h
   have k:=k again
   simp only [Ay,H26,Option.isSome_none,Option.getD_none,IX,Seg.enc,List.map_nil] at k
   simp only [RG,Q8,PG,H26,A0,vv2,vf,reduceCtorEq,Nat.reduceAdd,Nat.reduceEqDiff,h,ha',k]
end Ab
set_option linter.unusedVariables false
set_option linter.unusedSimpArgs false
set_option maxRecDepth 100000
namespace Ab
open Go
theorem stp_26 {W P1 P2:Ses→Prop} {μ:Ses→Nat} (hR:Wf W P1 P2 μ) (g:Gh) (s:Ses) (t:Int) (h:W s) (ht:nxS s=some t) (f1 f2 f3:AG) (e00:List AV) (g00:Gh) (s00:Ses) :
  Ev fun n=>∀z again,Mq n (fI C n) (e00,H26 f1 f2 f3 g00 s00 []) z (Eb (nxS s),H26 E0 E0 E0 g s []) again=again (Eb (nxS (stS s t)),H26 E0 E0 E0 (stT (g,s) t).1 (stS s t) []):=by
 have k0:=tx_26 g {s with now:=t} (.row true (AG.ver f1) 15 (Ba f1)) (.row true (AG.ver f2) 4 (Ba f2)) (.row true (AG.ver f3) 4 (Ba f3)) (hR.tx s t h ht)
 have k1:=rx_26 hR.rx (g1T g s t) (ph1 s t) (.row true (AG.ver f1) 15 (Ba f1)) (.row true (AG.ver f2) 4 (Ba f2)) (.row true (AG.ver f3) 4 (Ba f3)) (hR.p1 s t h ht)
 have k2:=ls_26 hR.ls (g2T g s t) (ph2 s t) (.row true (AG.ver f1) 15 (Ba f1)) (.row true (AG.ver f2) 4 (Ba f2)) (.row true (AG.ver f3) 4 (Ba f3)) (hR.p2 s t h ht)
 have hx:=hR.ex s t h ht
 have k3:=ex_26 (g3T g s t) (ph3 s t) (.row true (AG.ver f1) 15 (Ba f1)) (.row true (AG.ver f2) 4 (Ba f2)) (.row true (AG.ver f3) 4 (Ba f3)) hx.ent hx.ack hx.pl hx.w
 obtain ⟨n1,n2,n3⟩:=hR.nx _ (hR.st s t h ht).1
 have k4:=nx_26 (exG (g3T g s t) (ph3 s t)) (stS s t) (.row true (AG.ver f1) 15 (Ba f1)) (.row true (AG.ver f2) 4 (Ba f2)) (.row true (AG.ver f3) 4 (Ba f3)) n1 n2 n3
 refine (k0.and (k1.and (k2.and (k3.and (k4.and (Ev.ge 5)))))).mono fun n hh z again => ?_
 obtain ⟨k0,k1,k2,k3,k4,hn⟩:=hh
 have q:AJ (fun p again'=>IN n (fI C n) (e00,H26 f1 f2 f3 g00 s00 []) again p again') n ([.t (tI 0)],H26 E0 E0 E0 g {s with now:=t} [])=again (Eb (nxS (stS s t)),H26 E0 E0 E0 (exG (g3T g s t) (ph3 s t)) (stS s t) []):=by
  refine Rh _ _ ([.t (tI 1)],H26 E0 E0 E0 (g1T g s t) (ph1 s t) []) ([.t (tI 2)],H26 E0 E0 E0 (g2T g s t) (ph2 s t) []) ([.t (tI 3)],H26 E0 E0 E0 (g3T g s t) (ph3 s t) []) ([.t (tI 4)],H26 E0 E0 E0 (exG (g3T g s t) (ph3 s t)) (stS s t) []) _ n hn (fun ag => ?_) (fun ag => ?_) (fun ag => ?_) (fun ag => ?_) (fun ag => ?_)
  ·have k0:=fun ag=>k0 ag
   simp only [H26] at k0
   simp only [IN,G9,H26,A0,vv2,vf,reduceCtorEq,Nat.reduceAdd,Nat.reduceEqDiff,(show ¬(0:Int)=((3:Nat):Int) by omega),(show ¬(0:Int)=((2:Nat):Int) by omega),(show ¬(0:Int)=((1:Nat):Int) by omega),(show (0:Int)=((0:Nat):Int) by omega),(show (0:Int)<4 by omega),(show (0:Int)≤0 by omega),k0]
   rfl
  ·have k1:=fun ag=>k1 ag
   simp only [H26] at k1
   simp only [IN,G9,H26,A0,vv2,vf,reduceCtorEq,Nat.reduceAdd,Nat.reduceEqDiff,(show ¬(1:Int)=((3:Nat):Int) by omega),(show ¬(1:Int)=((2:Nat):Int) by omega),(show (1:Int)=((1:Nat):Int) by omega),(show (1:Int)<4 by omega),(show (0:Int)≤1 by omega),k1]
   rfl
  ·have k2:=fun ag=>k2 ag
   simp only [H26] at k2
   simp only [IN,G9,H26,A0,vv2,vf,reduceCtorEq,Nat.reduceAdd,Nat.reduceEqDiff,(show ¬(2:Int)=((3:Nat):Int) by omega),(show (2:Int)=((2:Nat):Int) by omega),(show (2:Int)<4 by omega),(show (0:Int)≤2 by omega),k2]
   rfl
  ·have k3:=fun ag=>k3 ag
   simp only [H26] at k3
   simp only [IN,G9,H26,A0,vv2,vf,reduceCtorEq,Nat.reduceAdd,Nat.reduceEqDiff,(show (3:Int)=((3:Nat):Int) by omega),(show (3:Int)<4 by omega),(show (0:Int)≤3 by omega),k3]
   rfl
  ·have k4:=fun ag=>k4 ag
   simp only [H26] at k4
   simp only [IN,Wo,H26,A0,vv2,vf,reduceCtorEq,Nat.reduceAdd,Nat.reduceEqDiff,(show ¬(4:Int)<4 by omega),k4,Eb]
 rw [ht]
 simp only [H26] at q
 simp only [Mq,Eb,Option.getD_some,Option.isSome_some,H26,A0,vv2,vf,reduceCtorEq,Nat.reduceAdd,Nat.reduceEqDiff]
 exact q
theorem rn_26 {W P1 P2:Ses→Prop} {μ:Ses→Nat} (hR:Wf W P1 P2 μ) (g:Gh) (s:Ses) (f1 f2 f3:AG) (h:W s) :
  Ev fun n=>∀again,Ts n (fI C n) again ([.ptr 7 0],H26 f1 f2 f3 g s [])=again ([],H26 E0 E0 E0 (rnT (μ s) (g,s)).1 (E6 (μ s) s) []):=by
 have key:=C2 (R:=List Tree) (Z:=List AV×Heap→Option (List Tree)) (Q:=Gh×Ses) (B:=fun n z p again=>Mq n (fI C n) ([.ptr 7 0],H26 f1 f2 f3 g s []) z p again)
  (s:=((Eb (nxS s),H26 E0 E0 E0 g s []):List AV×Heap)) (r:=rnT (μ s) (g,s))
  (fun z r=>z ([],H26 E0 E0 E0 r.1 r.2 [])) (fun q:Gh×Ses=>((Eb (nxS q.2),H26 E0 E0 E0 q.1 q.2 []):List AV×Heap)) (fun q=>match nxS q.2 with
   |none =>.done q
   |some t =>.next (stT q t)) (fun q=>W q.2) (fun q=>μ q.2) (fun q=>rnT (μ q.2) q) (g,s) rfl h rfl
  (fun q hI => ?_) (fun q q' hI hs => ?_) (fun q hI => ?_)
 ·obtain ⟨n1,n2,n3⟩:=hR.nx s h
  have k4:=nx_26 g s (.row true (AG.ver f1) 15 (Ba f1)) (.row true (AG.ver f2) 4 (Ba f2)) (.row true (AG.ver f3) 4 (Ba f3)) n1 n2 n3
  refine (key.and k4).mono fun n hh again => ?_
  obtain ⟨k,k4⟩:=hh
  have k:=k again
  rw [S3] at k
  simp only [H26,Eb] at k k4
  simp only [tC26_8,Wb,Wn,H26,A0,vv2,vf,reduceCtorEq,Nat.reduceAdd,Nat.reduceEqDiff,k4,k]
 ·obtain ⟨g1,s1⟩:=q
  simp only at hI ⊢
  cases hn:nxS s1 with
  |none=>
   refine Ev.of fun n z again => ?_
   simp only [Mq,Eb,Option.getD_none,Option.isSome_none,H26,A0,vv2,vf,reduceCtorEq,Nat.reduceAdd,Nat.reduceEqDiff,Rd.BQ]
  |some t=>
   have:=stp_26 hR g1 s1 t hI hn f1 f2 f3 [.ptr 7 0] g s
   rw [hn] at this
   refine this.mono fun n h z again => ?_
   simp only [Rd.Az]
   exact h z again
 ·cases hn:nxS q.2 with
  |none=>rw [hn] at hs;cases hs
  |some t=>
   rw [hn] at hs
   cases hs
   exact hR.st q.2 t hI hn
 ·cases hn:nxS q.2 with
  |none=>
   cases hm:μ q.2 with
   |zero=>rfl
   |succ m=>simp only [rnT,hn,Rd.fin]
  |some t=>
   obtain ⟨h1,h2⟩:=hR.st q.2 t hI hn
   simp only [Rd.fin]
   cases hm:μ q.2 with
   |zero=>omega
   |succ m=>
    simp only [rnT,hn]
    exact H6 hR m (stT q t) h1 (by simp only [stT];omega)
end Ab
set_option linter.unusedVariables false
set_option linter.unusedSimpArgs false
set_option maxRecDepth 100000
namespace Ab
open Go
theorem s26 {W P1 P2:Ses→Prop} {μ:Ses→Nat} (hR:Wf W P1 P2 μ) (c:Con) (b e:Int) (d:ByteArray) (ps:List Int) (lim:Int) (dk:List Span) (hW:Qe c b e d ps lim dk=0→W (ini c b e d ps lim dk)) (hL:Qe c b e d ps lim dk=0→ -9223372036854775808≤(E6 (μ (ini c b e d ps lim dk)) (ini c b e d ps lim dk)).dat.lost+(E6 (μ (ini c b e d ps lim dk)) (ini c b e d ps lim dk)).rep.lost∧(E6 (μ (ini c b e d ps lim dk)) (ini c b e d ps lim dk)).dat.lost+(E6 (μ (ini c b e d ps lim dk)) (ini c b e d ps lim dk)).rep.lost<9223372036854775808) :
  AQ C 26 (EO c b e d ps lim dk) (if Qe c b e d ps lim dk=0 then Jx (E6 (μ (ini c b e d ps lim dk)) (ini c b e d ps lim dk)) else [.bool false,tI 0,.bool false,tI 0,tI 0,tI 0,tI 0,tI (Qe c b e d ps lim dk)]):=by
 unfold EO Qe at *
 refine AQ.of (fun n=>e26 n _ _ _ _ _ _ _ _ _ _ _ _ _) ?_
 by_cases h1:1000<ps.length
 ·refine Ev.of fun n => ?_
  simp only [h1,vv2,vf,reduceCtorEq,Nat.reduceAdd,Nat.reduceEqDiff,(show (1000:Int)<(ps.length:Int) by omega),(show ¬(4:Int)=0 by omega)]
 ·have h1':¬(1000:Int)<(ps.length:Int):=by omega
  by_cases h2:lim < -1
  ·refine Ev.of fun n => ?_
   simp only [h1,h1',h2,vv2,vf,reduceCtorEq,Nat.reduceAdd,Nat.reduceEqDiff,(show ¬(2:Int)=0 by omega)]
  ·by_cases h3:BH dk=0
   ·by_cases h4:(BB c 0 d b e).2.2=0
    ·have hr:=Tx h4
     simp only [h1,h2,h3,h4,if_false,ne_eq,not_true_eq_false,if_true] at hW hL ⊢
     have hL:=hL trivial
     have kr:=rn_26 hR ⟨0,0,0,[]⟩ (ini c b e d ps lim dk) (.row true 0 15 [(ini c b e d ps lim dk).snd.enc]) (.row true 0 4 [[tI c.rng,.sl 10 [],tI 0,tI 0]]) (.row true 0 4 [[tI 0,tI (-1),.sl 2 [],.str (ByteArray.mk #[])]]) (hW trivial)
     refine ((s67 dk).and ((Pf c 0 d b e).and ((s69 c.rng hr).and ((s70 0).and kr)))).mono fun n hh => ?_
     obtain ⟨k1,k2,k3,k4,kr⟩:=hh
     have k4':newR 0=(⟨0,-1,[],ByteArray.mk #[]⟩,0):=rfl
     rw [k4'] at k4
     simp only [De,h4,Con.enc,Snd.enc,Rcv.enc,List.cons_append,List.nil_append,List.map_nil] at k2 k4
     simp only [h1',h2,h3,k1,k2,k3,k4,vv2,vf,reduceCtorEq,Nat.reduceAdd,Nat.reduceEqDiff,bne_self_eq_false]
     refine (kr _).trans ?_
     generalize E6 (μ (ini c b e d ps lim dk)) (ini c b e d ps lim dk)=fs at hL ⊢
     generalize (rnT (μ (ini c b e d ps lim dk)) (⟨0,0,0,[]⟩,ini c b e d ps lim dk)).1=g
     simp only [SP,Jx,H26,A0,vv2,vf,reduceCtorEq,Nat.reduceAdd,Nat.reduceEqDiff,Af hL.1 hL.2]
    ·have h4':((BB c 0 d b e).2.2 != 0)=true:=by simpa using h4
     refine ((s67 dk).and (Pf c 0 d b e)).mono fun n hh => ?_
     obtain ⟨k1,k2⟩:=hh
     simp only [De,Con.enc,Snd.enc,List.cons_append,List.nil_append] at k2
     simp only [h1,h1',h2,h3,h4,k1,k2,h4',vv2,vf,reduceCtorEq,Nat.reduceAdd,Nat.reduceEqDiff,bne_self_eq_false,ne_eq,not_true_eq_false]
   ·have h3':(BH dk != 0)=true:=by simpa using h3
    refine (s67 dk).mono fun n k1 => ?_
    simp only [h1,h1',h2,h3,k1,h3',vv2,vf,reduceCtorEq,Nat.reduceAdd,Nat.reduceEqDiff,ne_eq,not_false_eq_true,(show ¬(1:Int)=0 by omega)]
end Ab
set_option maxRecDepth 100000
set_option linter.unusedVariables false
namespace Ab
open Go Go.Proofs
theorem e13 (n:Nat) (a0:Int) (a1:Int) (a2:Int) (a3:Int) (a4:Int) (a5:Int) (a6:Int) (a7:Int) (a8:Int) (a9:ByteArray) (a10:List (List Tree)) (a11:Int) (a12:List (List Tree)):AA C (n+1) 13 [tI a0,tI a1,tI a2,tI a3,tI a4,tI a5,tI a6,tI a7,tI a8,Tree.str a9,Tree.sl 1 a10,tI a11,Tree.sl 2 a12]=
 Option.bind (AA C n 26 [tI a0,tI a1,tI a2,tI a3,tI a4,tI a5,tI a6,tI a7,tI a8,Tree.str a9,Tree.sl 1 a10,tI a11,Tree.sl 2 a12]) fun y13=>cnd (List.length y13 =
 (8:Nat)) (cnd (okB y13 0) (cnd (okI y13 1) (cnd (okB y13 2) (cnd (okI y13 3) (cnd (okI y13 4) (cnd (okI y13 5) (cnd (okI y13 6) (cnd (okI y13 7) (some [Tree.bool (gB y13 0),tI (gI y13 1),Tree.bool
 (gB y13 2),tI (gI y13 3),tI (gI y13 4),tI (gI y13 5),tI (gI y13 6),tI (gI y13 7)]) none) none) none) none) none) none) none) none) none:=by kernel_rfl
end Ab
set_option linter.unusedVariables false
set_option linter.unusedSimpArgs false
set_option maxRecDepth 100000
namespace Ab
open Go
def Oy (r:Int):Int:=if (if 1048576<r then 1048576 else r)>0 then (if 1048576<r then 1048576 else r) else 0
def J4 (p:Par):Bool:=decide (120<p.d.size∨(60<p.ps.length∧p.ps.length≤1000)∨20<p.dk.length∨p.e>w64 (p.b+w64 (40*w64 (w64 (2*Oy p.c.rng)+1))))
def Db (p:Par):List Tree:=EO p.c p.b p.e p.d p.ps p.lim p.dk
def D6 (p:Par):Int:=Qe p.c p.b p.e p.d p.ps p.lim p.dk
theorem s11 (p:Par):AQ C 11 (Db p) [.bool (J4 p)]:=by
 unfold Db EO
 refine AQ.of (fun n=>e11 n _ _ _ _ _ _ _ _ _ _ _ _ _) (Ev.of fun n => ?_)
 unfold J4
 simp only [List.length_map]
 have e:(if (if (1048576:Int)<p.c.rng then (1048576:Int) else p.c.rng)>(0:Int) then (if (1048576:Int)<p.c.rng then (1048576:Int) else p.c.rng) else (0:Int))=Oy p.c.rng:=rfl
 rw [e]
 by_cases h1:120<p.d.size
 ·simp only [vv,vf,reduceCtorEq,Nat.reduceAdd,Nat.reduceEqDiff,h1,(show (p.d.size:Int)>120 by omega)]
 ·by_cases h2:60<p.ps.length
  ·by_cases h3:p.ps.length≤1000
   ·simp only [vv,vf,reduceCtorEq,Nat.reduceAdd,Nat.reduceEqDiff,h1,h2,h3,(show ¬(120:Int)<(p.d.size:Int) by omega),(show (60:Int)<(p.ps.length:Int) by omega),(show (p.ps.length:Int)≤1000 by omega)]
   ·by_cases h4:20<p.dk.length
    ·simp only [vv,vf,reduceCtorEq,Nat.reduceAdd,Nat.reduceEqDiff,h1,h2,h3,h4,(show ¬(120:Int)<(p.d.size:Int) by omega),(show (60:Int)<(p.ps.length:Int) by omega),(show ¬(p.ps.length:Int)≤1000 by omega),(show (20:Int)<(p.dk.length:Int) by omega)]
    ·simp only [vv,vf,reduceCtorEq,Nat.reduceAdd,Nat.reduceEqDiff,h1,h2,h3,h4,(show ¬(120:Int)<(p.d.size:Int) by omega),(show (60:Int)<(p.ps.length:Int) by omega),(show ¬(p.ps.length:Int)≤1000 by omega),(show ¬(20:Int)<(p.dk.length:Int) by omega)]
  ·by_cases h4:20<p.dk.length
   ·simp only [vv,vf,reduceCtorEq,Nat.reduceAdd,Nat.reduceEqDiff,h1,h2,h4,(show ¬(120:Int)<(p.d.size:Int) by omega),(show ¬(60:Int)<(p.ps.length:Int) by omega),(show (20:Int)<(p.dk.length:Int) by omega)]
   ·simp only [vv,vf,reduceCtorEq,Nat.reduceAdd,Nat.reduceEqDiff,h1,h2,h4,(show ¬(120:Int)<(p.d.size:Int) by omega),(show ¬(60:Int)<(p.ps.length:Int) by omega),(show ¬(20:Int)<(p.dk.length:Int) by omega)]
def GP (p:Par):List Tree:=if D6 p=0 then Jx (BZ p) else [.bool false,tI 0,.bool false,tI 0,tI 0,tI 0,tI 0,tI (D6 p)]
theorem DX {p:Par} (h:D6 p=0):p.ps.length≤1000∧ -1≤p.lim∧BH p.dk=0∧(BB p.c 0 p.d p.b p.e).2.2=0:=by
 unfold D6 Qe at h
 split at h
 ·omega
 ·split at h
  ·omega
  ·split at h
   ·omega
   ·rename_i h1 h2 h3
    exact ⟨by omega,by omega,by omega,h⟩
theorem QZ {p:Par} (hp:POk p) (h:D6 p=0):0≤(BZ p).dat.lost∧0≤(BZ p).rep.lost∧(BZ p).dat.lost+(BZ p).rep.lost≤(BZ p).entered∧(BZ p).entered≤5000:=by
 have hw:=(MM hp (DX h).2.2.2).2.1.i
 have:=hw.gd.lost;have:=hw.gr.lost;have:=hw.c1;have:=hw.small hp
 omega
theorem s26P (p:Par) (hp:D6 p=0→POk p):AQ C 26 (Db p) (GP p):=by
 by_cases h:D6 p=0
 ·have hok:=hp h
  have hl:=QZ hok h
  have:=s26 (runP hok) p.c p.b p.e p.d p.ps p.lim p.dk (fun _=>Om hok (DX h).2.2.2) (fun _=>by show _≤(BZ p).dat.lost+(BZ p).rep.lost∧(BZ p).dat.lost+(BZ p).rep.lost<_;omega)
  exact this
 ·have h0:¬Qe p.c p.b p.e p.d p.ps p.lim p.dk=0:=h
  have:=s26 (W:=fun _=>False) (P1:=fun _=>False) (P2:=fun _=>False) (μ:=fun _=>0) ⟨⟨fun _ h=>h.elim,fun _ _ _ h=>h.elim⟩,⟨fun _ h=>h.elim,fun _ h=>h.elim,fun _ _ _ h=>h.elim⟩,fun _ h=>h.elim,fun _ _ h=>h.elim,fun _ _ h=>h.elim,fun _ _ h=>h.elim,fun _ _ h=>h.elim,fun _ _ h=>h.elim⟩ p.c p.b p.e p.d p.ps p.lim p.dk (fun q=>(h0 q).elim) (fun q=>(h0 q).elim)
  rw [if_neg h0] at this
  unfold GP
  rw [if_neg h]
  exact this
theorem s13P (p:Par) (hp:D6 p=0→POk p):AQ C 13 (Db p) (GP p):=by
 have k:=s26P p hp
 by_cases h0:D6 p=0
 ·have e:GP p=Jx (BZ p):=if_pos h0
  rw [e] at k ⊢
  unfold Jx at k ⊢
  unfold Db EO at k ⊢
  refine AQ.of (fun n=>e13 n _ _ _ _ _ _ _ _ _ _ _ _ _) ?_
  refine k.mono fun n h => ?_
  simp only [Con.enc,List.cons_append,List.nil_append] at h
  simp only [h,vv,vf,reduceCtorEq,Nat.reduceAdd,Nat.reduceEqDiff]
 ·have e:GP p=[.bool false,tI 0,.bool false,tI 0,tI 0,tI 0,tI 0,tI (D6 p)]:=if_neg h0
  rw [e] at k ⊢
  unfold Db EO at k ⊢
  refine AQ.of (fun n=>e13 n _ _ _ _ _ _ _ _ _ _ _ _ _) ?_
  refine k.mono fun n h => ?_
  simp only [Con.enc,List.cons_append,List.nil_append] at h
  simp only [h,vv,vf,reduceCtorEq,Nat.reduceAdd,Nat.reduceEqDiff]
theorem Jr {p:Par} (hg:J4 p=false) (hpk:∀x∈p.ps,-9223372036854775808≤x∧x≤9223372036854775807) (h:D6 p=0):POk p:=by
 obtain ⟨h1,h2,h3,h4⟩:=DX h
 have hg:=of_decide_eq_false hg
 have hS:=h4
 unfold BB at hS
 split at hS
 ·simp [Cj] at hS
 rename_i g1
 have g1:JJ p.c=0:=by simpa using g1
 rw [if_neg (by omega)] at hS
 split at hS
 ·simp [Cj] at hS
 rw [if_neg (by omega)] at hS
 split at hS
 ·simp [Cj] at hS
 rename_i g2 g3
 obtain ⟨c1,c2⟩:=Ep g1
 unfold HE at c1
 have hcl:Oy p.c.rng=p.c.rng:=by
  have e:(if (1048576:Int)<p.c.rng then (1048576:Int) else p.c.rng)=p.c.rng:=if_neg (by omega)
  unfold Oy
  rw [e,if_pos (by omega)]
 rw [hcl,Af (x:=2*p.c.rng) (by omega) (by omega),Af (x:=2*p.c.rng+1) (by omega) (by omega),Af (x:=40*(2*p.c.rng+1)) (by omega) (by omega),Af (x:=p.b+40*(2*p.c.rng+1)) (by omega) (by omega)] at hg
 refine ⟨g1,by omega,by omega,hpk,h1,fun k k1 k2 =>.inl ?_⟩
 have hk:k≤40:=by
  refine Classical.byContradiction fun q => ?_
  have:40*(2*p.c.rng+1)≤(k-1)*(2*p.c.rng+1):=Int.mul_le_mul_of_nonneg_right (by omega) (by omega)
  omega
 have:((p.d.size:Int)+1)*k≤121*k:=Int.mul_le_mul_of_nonneg_right (by omega) (by omega)
 omega
end Ab
set_option linter.unusedVariables false
set_option linter.unusedSimpArgs false
set_option maxRecDepth 100000
namespace Ab
open Go
def exC:Con:=⟨0,1,10,60,4,5,1⟩
def exD:ByteArray:=⟨(Go.Lib.repeatL [120] 20).toArray⟩
def ex1:Par:=⟨exC,10,36,exD,[],-1,[]⟩
def ex2:Par:=⟨exC,10,36,exD,[7,0,0,0,0,0],1,[]⟩
def ex3:Par:=⟨exC,10,36,exD,[0,0,7,0,0,0],1,[]⟩
theorem ex1_out:GP ex1=[.bool true,tI 24,.bool true,tI 29,tI 19,tI 3,tI 0,tI 0]:=by kernel_rfl
theorem ex2_out:GP ex2=[.bool true,tI 40,.bool true,tI 45,tI 35,tI 5,tI 1,tI 0]:=by kernel_rfl
theorem ex3_out:GP ex3=[.bool true,tI 24,.bool true,tI 43,tI 33,tI 5,tI 1,tI 0]:=by kernel_rfl
theorem Rw:(∀h:D6 ex1=0,POk ex1)∧(∀h:D6 ex2=0,POk ex2)∧(∀h:D6 ex3=0,POk ex3):=
 ⟨Jr (by decide +kernel) (by decide),Jr (by decide +kernel) (by decide),Jr (by decide +kernel) (by decide)⟩
theorem s25x:AQ C 25 [.str (ByteArray.mk #[120]),tI 20] [.str exD]:=AQ.of (g:=fun _=>some [.str exD]) (fun n=>by kernel_rfl) (Ev.of fun _=>rfl)
theorem fin_now {p:Par} (hp:POk p) (h:D6 p=0):0≤(BZ p).now∧(BZ p).now≤p.e+4*p.c.rng+2:=by
 obtain ⟨f1,f2,f3⟩:=MM hp (DX h).2.2.2
 have hr:=hp.rng
 refine ⟨f2.i.now,f1.ind (fun s=>s.now≤p.e+4*p.c.rng+2) (by show (0:Int)≤_;omega) fun s s' k m => ?_⟩
 cases m with
 |time t q1 q2 q3 q4 q5 q6=>exact (Wt.nx hp ⟨q1,q2,q3,q4,q5⟩ q6).2
 |tx o l q1 q2 q3=>exact k
 |rx f l q1 q2 q3 q4=>rw [(q1.Pj hp q3 q4).now];exact k
 |ls _ f l q1 q2 q3 q4 q5 q6=>cases q6<;>exact k
 |ex _ q1 q2 q3 q4 q5=>cases q5<;>exact k
theorem s12:AQ C 12 [] [.bool true]:=by
 refine AQ.of (fun n=>e12 n) ?_
 have a:=s26P ex1 Rw.1
 have b:=s26P ex2 Rw.2.1
 have c:=s26P ex3 Rw.2.2
 rw [ex1_out] at a
 rw [ex2_out] at b
 rw [ex3_out] at c
 refine (s25x.and (a.and (b.and c))).mono fun n h => ?_
 obtain ⟨h1,h2,h3,h4⟩:=h
 simp only [Db,EO,ex1,ex2,ex3,exC,Con.enc,Cn,List.map_nil,List.map_cons,List.cons_append,List.nil_append] at h2 h3 h4
 simp only [h1,h2,h3,h4,vv,vf,reduceCtorEq,Nat.reduceAdd,Nat.reduceEqDiff,J12_1,J12_2,beq_self_eq_true,Bool.and_self]
theorem s4 (p:Par) (hpk:∀x∈p.ps,-9223372036854775808≤x∧x≤9223372036854775807):AQ C 4 (Db p) [.bool true]:=by
 have k11:=s11 p
 cases hg:J4 p with
 |true=>
  rw [hg] at k11
  unfold Db EO at k11 ⊢
  refine AQ.of (fun n=>e4 n _ _ _ _ _ _ _ _ _ _ _ _ _) ?_
  refine (k11.and s12).mono fun n h => ?_
  obtain ⟨h1,h2⟩:=h
  simp only [Con.enc,List.cons_append,List.nil_append] at h1
  simp only [h1,h2,vv,vf,reduceCtorEq,Nat.reduceAdd,Nat.reduceEqDiff]
 |false=>
  rw [hg] at k11
  have hp:=Jr hg hpk
  have k13:=s13P p hp
  by_cases h0:D6 p=0
  ·have hok:=hp h0
   have hS:=(DX h0).2.2.2
   have e:GP p=Jx (BZ p):=if_pos h0
   rw [e] at k13
   unfold Jx at k13
   unfold Db EO at k11 k13 ⊢
   refine AQ.of (fun n=>e4 n _ _ _ _ _ _ _ _ _ _ _ _ _) ?_
   refine (k11.and (k13.and s12)).mono fun n h => ?_
   obtain ⟨h1,h2,h3⟩:=h
   simp only [Con.enc,List.cons_append,List.nil_append] at h1 h2
   obtain ⟨kt,kk⟩:=knw_fin hok hS
   have hl:=QZ hok h0
   have hw:=(MM hok hS).2.1
   have hr:=hok.rng
   have hbig:(BZ p).rcvd=true→p.b+p.c.rng<(BZ p).arrive:=fun q=>by
    obtain ⟨_,t,k1,k2⟩:=kk.k4 q
    have:=(kk.k1 t k1).1
    omega
   have harr:(BZ p).rcvd=true→(BZ p).arrive≤(BZ p).now:=fun q=>by
    obtain ⟨_,t,k1,k2⟩:=kk.k4 q
    have:=(kk.k1 t k1).2
    omega
   have hnow:(BZ p).now≤8796093022208:=by have:=fin_now hok h0;omega
   have hq:(BZ p).dat.lost=0→(BZ p).rep.lost=0→(BZ p).rcvd=true∧(BZ p).kno=true:=fun z1 z2=>⟨(q_fin hok hS z1 z2).rc,(q_fin hok hS z1 z2).kn⟩
   have k5:=kk.k5;have k6:=kk.k6;have k7:=kk.k7
   have w1:w64 (p.b+p.c.rng)=p.b+p.c.rng:=Af (by omega) (by omega)
   cases hrc:(BZ p).rcvd with
   |false=>
    have hkn:(BZ p).kno=false:=by
     cases hk:(BZ p).kno with
     |false=>rfl
     |true=>rw [(k7 hk).1] at hrc;cases hrc
    have hlost:(BZ p).dat.lost+(BZ p).rep.lost>0:=by
     refine Classical.byContradiction fun q => ?_
     have:=(hq (by omega) (by omega)).1
     rw [hrc] at this;cases this
    rw [hrc,hkn,k5 hrc,k6 hkn] at h2
    simp only [h1,h2,h3,vv,vf,reduceCtorEq,Nat.reduceAdd,Nat.reduceEqDiff,JW,JW,hlost,bne_self_eq_false]
   |true=>
    have w2:w64 ((BZ p).arrive+p.c.rng)=(BZ p).arrive+p.c.rng:=by
     have:=hbig hrc;have:=harr hrc
     exact Af (by omega) (by omega)
    have hb:=hbig hrc
    cases hkn:(BZ p).kno with
    |false=>
     have hlost:(BZ p).dat.lost+(BZ p).rep.lost>0:=by
      refine Classical.byContradiction fun q => ?_
      have:=(hq (by omega) (by omega)).2
      rw [hkn] at this;cases this
     rw [hrc,hkn,k6 hkn] at h2
     simp only [h1,h2,h3,vv,vf,reduceCtorEq,Nat.reduceAdd,Nat.reduceEqDiff,JW,JW,hlost,bne_self_eq_false,w1,w2,(show ¬(BZ p).arrive≤p.b+p.c.rng by omega)]
    |true=>
     have:=(k7 hkn).2
     rw [hrc,hkn] at h2
     simp only [h1,h2,h3,vv,vf,reduceCtorEq,Nat.reduceAdd,Nat.reduceEqDiff,JW,JW,bne_self_eq_false,w1,w2,(show ¬(BZ p).arrive≤p.b+p.c.rng by omega),(show ¬(BZ p).knoAt<(BZ p).arrive+p.c.rng by omega),AB,ite_self]
  ·have e:GP p=[.bool false,tI 0,.bool false,tI 0,tI 0,tI 0,tI 0,tI (D6 p)]:=if_neg h0
   rw [e] at k13
   unfold Db EO at k11 k13 ⊢
   refine AQ.of (fun n=>e4 n _ _ _ _ _ _ _ _ _ _ _ _ _) ?_
   refine (k11.and (k13.and s12)).mono fun n h => ?_
   obtain ⟨h1,h2,h3⟩:=h
   simp only [Con.enc,List.cons_append,List.nil_append] at h1 h2
   have hne:(D6 p != 0)=true:=by simpa using h0
   simp only [h1,h2,h3,vv,vf,reduceCtorEq,Nat.reduceAdd,Nat.reduceEqDiff,hne]
end Ab
set_option linter.unusedVariables false
set_option linter.unusedSimpArgs false
set_option maxRecDepth 100000
namespace Ab
open Go
theorem s5 (p:Par) (m:Nat) (hm:m<256) (he : -9223372036854775808≤p.e∧p.e≤9223372036854775807) (hpk:∀x∈p.ps,-9223372036854775808≤x∧x≤9223372036854775807):AQ C 5 (Db p++[.int .u8 (m:Int)]) [.bool true]:=by
 obtain ⟨q,hq⟩:∃q:Par,q={p with e:=w64 (p.e+m)}:=⟨_,rfl⟩
 have qc:q.c=p.c:=by rw [hq]
 have qb:q.b=p.b:=by rw [hq]
 have qd:q.d=p.d:=by rw [hq]
 have qe:q.e=w64 (p.e+m):=by rw [hq]
 have ql:q.lim=p.lim:=by rw [hq]
 have qs:q.ps=p.ps:=by rw [hq]
 have qk:q.dk=p.dk:=by rw [hq]
 have wm:w64 (m:Int)=m:=Af (by omega) (by omega)
 have k11:=s11 p
 have j11:=s11 q
 unfold Db EO at k11 j11
 cases hg:J4 p with
 |true=>
  rw [hg] at k11
  unfold Db EO
  refine AQ.of (fun n=>e5 n _ _ _ _ _ _ _ _ _ _ _ _ _ _) ?_
  refine (k11.and s12).mono fun n h => ?_
  obtain ⟨h1,h2⟩:=h
  simp only [Con.enc,List.cons_append,List.nil_append] at h1
  simp only [h1,h2,vv,vf,reduceCtorEq,Nat.reduceAdd,Nat.reduceEqDiff,SO]
 |false=>
  rw [hg] at k11
  cases hgq:J4 q with
  |true=>
   rw [hgq] at j11
   unfold Db EO
   refine AQ.of (fun n=>e5 n _ _ _ _ _ _ _ _ _ _ _ _ _ _) ?_
   refine (k11.and (j11.and s12)).mono fun n h => ?_
   obtain ⟨h1,h2,h3⟩:=h
   simp only [Con.enc,List.cons_append,List.nil_append,qc,qb,qd,qe,ql,qs,qk] at h1 h2
   simp only [h1,h2,h3,wm,vv,vf,reduceCtorEq,Nat.reduceAdd,Nat.reduceEqDiff,SO]
  |false=>
   rw [hgq] at j11
   by_cases hE:p.e>1099511627776
   ·unfold Db EO
    refine AQ.of (fun n=>e5 n _ _ _ _ _ _ _ _ _ _ _ _ _ _) ?_
    refine (k11.and (j11.and s12)).mono fun n h => ?_
    obtain ⟨h1,h2,h3⟩:=h
    simp only [Con.enc,List.cons_append,List.nil_append,qc,qb,qd,qe,ql,qs,qk] at h1 h2
    have hE':p.e>1099511627776:=hE
    simp only [h1,h2,h3,wm,vv,vf,reduceCtorEq,Nat.reduceAdd,Nat.reduceEqDiff,SO,(show 1099511627776<p.e from hE)]
   ·have we:w64 (p.e+m)=p.e+m:=Af (by omega) (by omega)
    have hp:=Jr hg hpk
    have hp':=Jr hgq (by rw [qs];exact hpk)
    have k13:=s13P p hp
    have j13:=s13P q hp'
    by_cases h0:D6 p=0
    ·by_cases h0':D6 q=0
     ·have hL:=V2 (p:=p) (p':=q) ⟨hp h0,hp' h0',qc,by rw [qe,we];omega,qd⟩ qb qs ql qk (DX h0).2.2.2 (DX h0').2.2.2
      have e:GP p=Jx (BZ p):=if_pos h0
      have e':GP q=Jx (BZ q):=if_pos h0'
      rw [e] at k13
      rw [e'] at j13
      unfold Jx at k13 j13
      unfold Db EO at k13 j13 ⊢
      refine AQ.of (fun n=>e5 n _ _ _ _ _ _ _ _ _ _ _ _ _ _) ?_
      refine (k11.and (j11.and (k13.and (j13.and s12)))).mono fun n h => ?_
      obtain ⟨h1,h2,h3,h4,h5⟩:=h
      simp only [Con.enc,List.cons_append,List.nil_append,qc,qb,qd,qe,ql,qs,qk] at h1 h2 h3 h4
      have hen:=hL.en
      have hrc:=hL.rc
      have hkn:=hL.kn
      simp only [h1,h2,h3,h4,h5,wm,vv,vf,reduceCtorEq,Nat.reduceAdd,Nat.reduceEqDiff,SO,J5_1,(show ¬1099511627776<p.e from hE),bne_self_eq_false,(show (BZ q).entered≥(BZ p).entered from hen)]
      cases a:(BZ p).rcvd with
      |true=>
       obtain ⟨b1,b2⟩:=hrc a
       cases a':(BZ p).kno with
       |true=>
        obtain ⟨d1,d2⟩:=hkn a'
        simp only [vv,vf,reduceCtorEq,Nat.reduceAdd,Nat.reduceEqDiff,b1,b2,d1,d2,bne_self_eq_false,hen]
       |false=>simp only [vv,vf,reduceCtorEq,Nat.reduceAdd,Nat.reduceEqDiff,b1,b2,bne_self_eq_false,hen]
      |false=>
       cases a':(BZ p).kno with
       |true=>
        obtain ⟨d1,d2⟩:=hkn a'
        simp only [vv,vf,reduceCtorEq,Nat.reduceAdd,Nat.reduceEqDiff,d1,d2,bne_self_eq_false,hen]
       |false=>simp only [vv,vf,reduceCtorEq,Nat.reduceAdd,Nat.reduceEqDiff,bne_self_eq_false,hen]
     ·have e':GP q=[.bool false,tI 0,.bool false,tI 0,tI 0,tI 0,tI 0,tI (D6 q)]:=if_neg h0'
      have e:GP p=Jx (BZ p):=if_pos h0
      rw [e] at k13
      unfold Jx at k13
      rw [e'] at j13
      unfold Db EO at k13 j13 ⊢
      refine AQ.of (fun n=>e5 n _ _ _ _ _ _ _ _ _ _ _ _ _ _) ?_
      refine (k11.and (j11.and (k13.and (j13.and s12)))).mono fun n h => ?_
      obtain ⟨h1,h2,h3,h4,h5⟩:=h
      simp only [Con.enc,List.cons_append,List.nil_append,qc,qb,qd,qe,ql,qs,qk] at h1 h2 h3 h4
      have hne:(D6 q != 0)=true:=by simpa using h0'
      rw [show D6 q=D6 {p with e:=w64 (p.e+m)} by rw [hq]] at h4 hne
      simp only [h1,h2,h3,h4,h5,wm,vv,vf,reduceCtorEq,Nat.reduceAdd,Nat.reduceEqDiff,SO,J5_1,(show ¬1099511627776<p.e from hE),bne_self_eq_false,hne]
    ·have e:GP p=[.bool false,tI 0,.bool false,tI 0,tI 0,tI 0,tI 0,tI (D6 p)]:=if_neg h0
     rw [e] at k13
     obtain ⟨v,hv⟩:∃v1 v2 v3 v4 v5 v6 v7 v8,GP q=[.bool v1,tI v2,.bool v3,tI v4,tI v5,tI v6,tI v7,tI v8]:=by
      by_cases h0':D6 q=0
      ·exact ⟨_,_,_,_,_,_,_,_,by rw [show GP q=Jx (BZ q) from if_pos h0'];rfl⟩
      ·exact ⟨_,_,_,_,_,_,_,_,by rw [show GP q=_ from if_neg h0']⟩
     obtain ⟨v2,v3,v4,v5,v6,v7,v8,hv⟩:=hv
     rw [hv] at j13
     unfold Db EO at k13 j13 ⊢
     refine AQ.of (fun n=>e5 n _ _ _ _ _ _ _ _ _ _ _ _ _ _) ?_
     refine (k11.and (j11.and (k13.and (j13.and s12)))).mono fun n h => ?_
     obtain ⟨h1,h2,h3,h4,h5⟩:=h
     simp only [Con.enc,List.cons_append,List.nil_append,qc,qb,qd,qe,ql,qs,qk] at h1 h2 h3 h4
     have hne:(D6 p != 0)=true:=by simpa using h0
     simp only [h1,h2,h3,h4,h5,wm,vv,vf,reduceCtorEq,Nat.reduceAdd,Nat.reduceEqDiff,SO,J5_1,(show ¬1099511627776<p.e from hE),hne]
end Ab
set_option linter.unusedVariables false
namespace Ab
open Go
variable {P:Program}
theorem NN {d:Nat} {t:TypeId} {k:IntKind} (hu:P.underlying t=some (.int k)) {ts:List Tree} (h:Typed P d t ts):∃n,ts=[.int k n]∧(Lit.int k n).wf=true:=by
 cases d with
 |zero=>cases h
 |succ d=>unfold Typed at h;rw [hu] at h;exact h
theorem Tv {d:Nat} {t:TypeId} (hu:P.underlying t=some .string) {ts:List Tree} (h:Typed P d t ts):∃s:ByteArray,ts=[.str s]∧s.size≤maxLen:=by
 cases d with
 |zero=>cases h
 |succ d=>unfold Typed at h;rw [hu] at h;exact h
theorem KY {d:Nat} {t e:TypeId} (hu:P.underlying t=some (.slice e)) {ts:List Tree} (h:Typed P (d+1) t ts):∃es,ts=[.sl (P.cellsOf e) es]∧es.length≤maxLen∧∀x∈es,Typed P d e x:=by
 unfold Typed at h;rw [hu] at h;exact h
theorem OK {d:Nat} {t:TypeId} {fs:Array Field} (hu:P.underlying t=some (.struct fs)) {ts:List Tree} (h:Typed P (d+1) t ts):E5 (Typed P d) (fs.toList.map (·.type)) ts:=by
 unfold Typed at h;rw [hu] at h;exact h
def Qa (P:Program) (t:TypeId):Option (List TypeId):=
 match P.underlying t with
 |some (.struct fs)=>some (fs.toList.map (·.type))
 |_=>none
theorem Fg {d:Nat} {t:TypeId} (l:List TypeId) (hu:Qa P t=some l) {ts:List Tree} (h:Typed P (d+1) t ts):E5 (Typed P d) l ts:=by
 unfold Qa at hu
 split at hu
 ·rename_i fs hf
  cases hu
  exact OK hf h
 ·cases hu
theorem Aq {Ty:TypeId→List Tree→Prop} {t:TypeId} {l:List TypeId} {ts:List Tree} (h:E5 Ty (t::l) ts):∃a b,ts=a++b∧Ty t a∧E5 Ty l b:=h
theorem Fh {Ty:TypeId→List Tree→Prop} {ts:List Tree} (h:E5 Ty [] ts):ts=[]:=h
theorem F0 {α:Type} {enc:α→List Tree} {p:α→Prop}:∀{es:List (List Tree)},(∀x∈es,∃a,x=enc a∧p a)→∃l:List α,es=l.map enc∧∀a∈l,p a
 |[],_=>⟨[],rfl,by simp⟩
 |x::es,h=>by
  obtain ⟨a,ha,pa⟩:=h x (by simp)
  obtain ⟨l,hl,pl⟩:=F0 (es:=es) fun y hy=>h y (by simp [hy])
  refine ⟨a::l,by simp [ha,hl],fun b hb => ?_⟩
  rcases List.mem_cons.1 hb with rfl|hb
  ·exact pa
  ·exact pl b hb
end Ab
set_option linter.unusedVariables false
set_option maxRecDepth 100000
namespace Ab
open Go Go.Proofs
theorem uInt:C.P.underlying 3=some (.int .i64):=by kernel_rfl
theorem uU8:C.P.underlying 5=some (.int .u8):=by kernel_rfl
theorem uStr:C.P.underlying 9=some .string:=by kernel_rfl
def Uu (n:Int):Prop := -9223372036854775808≤n∧n≤9223372036854775807
theorem DB {d:Nat} {ts:List Tree} (h:Typed C.P d 3 ts):∃n,ts=[tI n]∧Uu n:=by
 obtain ⟨n,h1,h2⟩:=NN uInt h
 refine ⟨n,h1,?_⟩
 simp only [Lit.wf,Bool.and_eq_true,decide_eq_true_eq,show IntKind.i64.min = -9223372036854775808 from rfl,show IntKind.i64.max=9223372036854775807 from rfl] at h2
 exact h2
theorem dec_u8 {d:Nat} {ts:List Tree} (h:Typed C.P d 5 ts):∃n:Nat,ts=[.int .u8 (n:Int)]∧n<256:=by
 obtain ⟨n,h1,h2⟩:=NN uU8 h
 have h3:0≤n∧n≤255:=by simpa [Lit.wf,IntKind.min,IntKind.max,IntKind.signed,IntKind.bits] using h2
 exact ⟨n.toNat,by rw [h1,show ((n.toNat:Nat):Int)=n by omega],by omega⟩
theorem dec_str {d:Nat} {ts:List Tree} (h:Typed C.P d 9 ts):∃b:ByteArray,ts=[.str b]∧True:=by
 obtain ⟨b,h1,_⟩:=Tv uStr h
 exact ⟨b,h1,trivial⟩
theorem WG {d:Nat} {ts:List Tree} (h:Typed C.P (d+1) 45 ts):∃e:Span,ts=e.enc∧True:=by
 have h1:=Fg (t:=45) [3,3] (by kernel_rfl) h
 clear h
 obtain ⟨_,t1,rfl,x1,g1⟩:=Aq h1
 obtain ⟨a1,rfl,k1⟩:=DB x1
 obtain ⟨_,t2,rfl,x2,g2⟩:=Aq g1
 obtain ⟨a2,rfl,k2⟩:=DB x2
 obtain rfl:=Fh g2
 exact ⟨⟨a1,a2⟩,rfl,trivial⟩
theorem UZ {d:Nat} {ts:List Tree} (h:Typed C.P (d+2) 25 ts):∃l:List Span,ts=[.sl 2 (l.map Span.enc)]∧True:=by
 obtain ⟨es,rfl,_,h2⟩:=KY (t:=25) (e:=45) (by kernel_rfl) h
 obtain ⟨l,rfl,hl⟩:=F0 fun x hx=>WG (h2 x hx)
 exact ⟨l,by rw [show C.P.cellsOf 45=2 by kernel_rfl],trivial⟩
theorem WH {d:Nat} {ts:List Tree} (h:Typed C.P (d+2) 24 ts):∃l:List Int,ts=[.sl 1 (l.map Cn)]∧∀n∈l,Uu n:=by
 obtain ⟨es,rfl,_,h2⟩:=KY (t:=24) (e:=3) (by kernel_rfl) h
 obtain ⟨l,rfl,hl⟩:=F0 (enc:=Cn) fun x hx=>DB (h2 x hx)
 exact ⟨l,by rw [show C.P.cellsOf 3=1 by kernel_rfl],hl⟩
theorem dec_con {d:Nat} {ts:List Tree} (h:Typed C.P (d+1) 23 ts):∃e:Con,ts=e.enc∧True:=by
 have h1:=Fg (t:=23) [3,3,3,3,3,3,3] (by kernel_rfl) h
 clear h
 obtain ⟨_,t1,rfl,x1,g1⟩:=Aq h1
 obtain ⟨a1,rfl,k1⟩:=DB x1
 obtain ⟨_,t2,rfl,x2,g2⟩:=Aq g1
 obtain ⟨a2,rfl,k2⟩:=DB x2
 obtain ⟨_,t3,rfl,x3,g3⟩:=Aq g2
 obtain ⟨a3,rfl,k3⟩:=DB x3
 obtain ⟨_,t4,rfl,x4,g4⟩:=Aq g3
 obtain ⟨a4,rfl,k4⟩:=DB x4
 obtain ⟨_,t5,rfl,x5,g5⟩:=Aq g4
 obtain ⟨a5,rfl,k5⟩:=DB x5
 obtain ⟨_,t6,rfl,x6,g6⟩:=Aq g5
 obtain ⟨a6,rfl,k6⟩:=DB x6
 obtain ⟨_,t7,rfl,x7,g7⟩:=Aq g6
 obtain ⟨a7,rfl,k7⟩:=DB x7
 obtain rfl:=Fh g7
 exact ⟨⟨a1,a2,a3,a4,a5,a6,a7⟩,rfl,trivial⟩
structure Wd (p:Par):Prop where
 b:Uu p.b
 e:Uu p.e
 lim:Uu p.lim
 pk:∀n∈p.ps,Uu n
theorem WI {d:Nat} {ts:List Tree} (h:Typed C.P (d+3) 27 ts):∃p:Par,ts=Db p∧Wd p:=by
 have h1:=Fg (t:=27) [23,3,3,9,24,3,25] (by kernel_rfl) h
 clear h
 obtain ⟨_,t1,rfl,x1,g1⟩:=Aq h1
 obtain ⟨a1,rfl,k1⟩:=dec_con x1
 obtain ⟨_,t2,rfl,x2,g2⟩:=Aq g1
 obtain ⟨a2,rfl,k2⟩:=DB x2
 obtain ⟨_,t3,rfl,x3,g3⟩:=Aq g2
 obtain ⟨a3,rfl,k3⟩:=DB x3
 obtain ⟨_,t4,rfl,x4,g4⟩:=Aq g3
 obtain ⟨a4,rfl,k4⟩:=dec_str x4
 obtain ⟨_,t5,rfl,x5,g5⟩:=Aq g4
 obtain ⟨a5,rfl,k5⟩:=WH x5
 obtain ⟨_,t6,rfl,x6,g6⟩:=Aq g5
 obtain ⟨a6,rfl,k6⟩:=DB x6
 obtain ⟨_,t7,rfl,x7,g7⟩:=Aq g6
 obtain ⟨a7,rfl,k7⟩:=UZ x7
 obtain rfl:=Fh g7
 exact ⟨⟨a1,a2,a3,a4,a5,a6,a7⟩,rfl,⟨k2,k3,k6,k5⟩⟩
theorem own:ownKnob Tryz.prog.godebug=none:=by kernel_rfl
end Ab
namespace Go.Proofs
open Go.Shelf
open Go.RowKit in
open Go.RowKit in
open Go.RowKit in
open Go.RowKit in
open Go.RowKit in
open Go.RowKit in
open Go.RowKit in
open Go.RowKit in
open Go.RowKit in
open Go.RowKit in
open Go.RowKit Go.Lib in
open Go.RowKit Go.Lib in
open Go.RowKit Go.Lib in
open Go.RowKit Go.Lib in
def Tryz.Kh:Go.Shelf.Ren:=⟨fun|105=>25|212=>40|99=>41|165=>42|166=>43|170=>44|169=>45|263=>62|264=>63|206=>64|240=>65|241=>66|276=>89|277=>90|n=>n,fun|9=>9|3=>3|4=>4|20=>20|0=>0|46=>76|109=>77|5=>5|72=>83|76=>87|51=>114|146=>115|53=>117|148=>118|70=>80|37=>81|75=>86|127=>120|164=>139|80=>90|n=>n,fun|n=>n⟩
theorem Tryz.lays105:Go.Proofs.Lays.n105 Tryz.prog Tryz.Kh:={
 mixed:=by kernel_rfl
 f99:=Tryz.func41.trans (congrArg some (by kernel_rfl))
 f105:=Tryz.func25.trans (congrArg some (by kernel_rfl))
 f165:=Tryz.func42.trans (congrArg some (by kernel_rfl))
 f166:=Tryz.func43.trans (congrArg some (by kernel_rfl))
 f169:=Tryz.func45.trans (congrArg some (by kernel_rfl))
 f170:=Tryz.func44.trans (congrArg some (by kernel_rfl))
 f206:=Tryz.func64.trans (congrArg some (by kernel_rfl))
 f212:=Tryz.func40.trans (congrArg some (by kernel_rfl))
 f240:=Tryz.func65.trans (congrArg some (by kernel_rfl))
 f241:=Tryz.func66.trans (congrArg some (by kernel_rfl))
 f263:=Tryz.func62.trans (congrArg some (by kernel_rfl))
 f264:=Tryz.func63.trans (congrArg some (by kernel_rfl))
 f276:=Tryz.func89.trans (congrArg some (by kernel_rfl))
 f277:=Tryz.func90.trans (congrArg some (by kernel_rfl))
 t0:=Tryz.underlying0
 a0:=Tryz.isAgg0
 z0:=Tryz.sizeOf0
 v0:=Tryz.zeroValue0
 t3:=Tryz.underlying3
 a3:=Tryz.isAgg3
 z3:=Tryz.sizeOf3
 v3:=Tryz.zeroValue3
 t4:=Tryz.underlying4
 a4:=Tryz.isAgg4
 z4:=Tryz.sizeOf4
 v4:=Tryz.zeroValue4
 t5:=Tryz.underlying5
 a5:=Tryz.isAgg5
 z5:=Tryz.sizeOf5
 v5:=Tryz.zeroValue5
 t9:=Tryz.underlying9
 a9:=Tryz.isAgg9
 z9:=Tryz.sizeOf9
 v9:=Tryz.zeroValue9
 t20:=Tryz.underlying20
 a20:=Tryz.isAgg20
 z20:=Tryz.sizeOf20
 v20:=Tryz.zeroValue20
 t37:=Tryz.underlying81
 a37:=Tryz.isAgg81
 z37:=Tryz.sizeOf81
 v37:=Tryz.zeroValue81
 t46:=Tryz.underlying76
 a46:=Tryz.isAgg76
 z46:=Tryz.sizeOf76
 v46:=Tryz.zeroValue76
 t51:=Tryz.underlying114
 a51:=Tryz.isAgg114
 z51:=Tryz.sizeOf114
 v51:=Tryz.zeroValue114
 t53:=Tryz.underlying117
 a53:=Tryz.isAgg117
 z53:=Tryz.sizeOf117
 v53:=Tryz.zeroValue117
 t70:=Tryz.underlying80
 a70:=Tryz.isAgg80
 z70:=Tryz.sizeOf80
 v70:=Tryz.zeroValue80
 t72:=Tryz.underlying83
 a72:=Tryz.isAgg83
 z72:=Tryz.sizeOf83
 v72:=Tryz.zeroValue83
 t75:=Tryz.underlying86
 a75:=Tryz.isAgg86
 z75:=Tryz.sizeOf86
 v75:=Tryz.zeroValue86
 t76:=Tryz.underlying87
 a76:=Tryz.isAgg87
 z76:=Tryz.sizeOf87
 v76:=Tryz.zeroValue87
 t109:=Tryz.underlying77
 a109:=Tryz.isAgg77
 z109:=Tryz.sizeOf77
 v109:=Tryz.zeroValue77
 t127:=Tryz.underlying120
 a127:=Tryz.isAgg120
 z127:=Tryz.sizeOf120
 v127:=Tryz.zeroValue120
 t146:=Tryz.underlying115
 a146:=Tryz.isAgg115
 z146:=Tryz.sizeOf115
 v146:=Tryz.zeroValue115
 t148:=Tryz.underlying118
 a148:=Tryz.isAgg118
 z148:=Tryz.sizeOf118
 v148:=Tryz.zeroValue118
 t164:=Tryz.underlying139
 a164:=Tryz.isAgg139
 z164:=Tryz.sizeOf139
 v164:=Tryz.zeroValue139}
theorem Tryz.Jf:Builder.Extra Tryz.prog Tryz.Kh:={
 sizeBuilder:=by kernel_rfl
 liesBuilder:=by kernel_rfl
 t5:=Tryz.underlying5
 a5:=Tryz.isAgg5
 z5:=Tryz.sizeOf5
 v5:=Tryz.zeroValue5
 infoByte:=by kernel_rfl
 cellsByte:=by kernel_rfl
 sizeByte:=by kernel_rfl
 neB5:=by decide}
open Go.RowKit Go.Lib in
open Go.RowKit Go.Lib in
open Go.RowKit Go.Lib in
open Go.RowKit Go.Lib in
open Go.RowKit Go.Lib in
open Go.RowKit Go.Lib in
open Go.RowKit Go.Lib in
theorem Tryz.strings_Repeat (s:ByteArray) (c:Nat) (w:World) (hc:c≤9223372036854775807) (hlen:s.size*c≤140737488355328) :
  Calls Tryz.prog 25 #[.string s,.int .i64 c] w fun e w'=>e = .returned (.string ⟨(Lib.repeatL s.data.toList c).toArray⟩)∧Below w.heap.size w w':=Any.strings_Repeat Tryz.lays105 Tryz.Jf s c w hc hlen
end Go.Proofs
namespace Ab
open Go Go.Proofs Go.Shelf Go.RowKit Go.Lib
set_option maxRecDepth 100000
theorem Gb {P:Program} {t key elem:TypeId} {kd:IntKind} (hu:P.underlying t=some (.map key elem)) (hk:P.underlying key=some (.int kd)) {w:World} {b:Nat} {es:Array MapEntry} {clock:Nat} (hb:w.heap[b]? = some (.map es clock)) (n:Int) (v:Value)
  (hnew:Instr.findNow (.int kd) (.int kd n) es.toList 0=some none) :
  (Instr.mapUpdate t (.map (some b)) (.int kd n) v).run P w = .ok () (w.putObj b (.map (es.push {key :=.int kd n,val:=v,born:=clock}) (clock+1))):=by
 have hck:(Instr.checkKey false 10000 key (.int kd n)).run P w = .ok () w:=by
  have:∀m:Nat,(Instr.checkKey false (m+1) key (.int kd n)).run P w = .ok () w:=fun m=>by simp [Instr.checkKey,run_underlying hk]
  exact this 9999
 simp only [Instr.mapUpdate,Sem.run_bind,run_underlying hu,Result.andThen_ok,H5 hb,hck,Instr.findKey,run_underlying hk,hnew,Sem.run_pure]
 simp [setObj,Sem.run,hb,World.putObj]
theorem MD (w:World):Calls Tryz.prog 165 #[] w fun e w'=>∃b,e = .returned (.map (some b))∧w.heap.size≤b∧b<w'.heap.size∧Below w.heap.size w w'∧∃es clock,w'.heap[b]? = some (.map es clock)∧es.toList.map (fun e=>(e.key,e.val))=[(.int .i64 2,.func (.func 186) #[] #[]),(.int .i64 3,.func (.func 187) #[] #[])]:=by
 have hmm:=@Go.run_makeMap_plain Tryz.prog
 have hw0:(w.alloc (.map #[] 0)).heap[w.heap.size]? = some (.map #[] 0):=by
  show (w.heap.push (.map #[] 0))[w.heap.size]? = _
  exact Array.getElem?_push_size
 have h1:(Instr.mapUpdate 191 (.map (some w.heap.size)) (.int .i64 2) (.func (.func 186) #[] #[])).run Tryz.prog (w.alloc (.map #[] 0))= .ok () ((w.alloc (.map #[] 0)).putObj w.heap.size (.map #[{key :=.int .i64 2,val :=.func (.func 186) #[] #[],born:=0}] 1)):=
  Gb (P:=Tryz.prog) (t:=191) (key:=3) (elem:=189) (kd :=.i64) (by kernel_rfl) (by kernel_rfl) hw0 2 (.func (.func 186) #[] #[]) rfl
 have hlt:=DR hw0
 have hw1:=World.putObj_heap_same (o :=.map #[{key :=.int .i64 2,val :=.func (.func 186) #[] #[],born:=0}] 1) hlt
 have hlt2:=DR hw1
 have hw2:=World.putObj_heap_same (o :=.map #[{key :=.int .i64 2,val :=.func (.func 186) #[] #[],born:=0},{key :=.int .i64 3,val :=.func (.func 187) #[] #[],born:=1}] 2) hlt2
 have hlt3:=DR hw2
 have h2:(Instr.mapUpdate 191 (.map (some w.heap.size)) (.int .i64 3) (.func (.func 187) #[] #[])).run Tryz.prog ((w.alloc (.map #[] 0)).putObj w.heap.size (.map #[{key :=.int .i64 2,val :=.func (.func 186) #[] #[],born:=0}] 1))= .ok () (((w.alloc (.map #[] 0)).putObj w.heap.size (.map #[{key :=.int .i64 2,val :=.func (.func 186) #[] #[],born:=0}] 1)).putObj w.heap.size (.map #[{key :=.int .i64 2,val :=.func (.func 186) #[] #[],born:=0},{key :=.int .i64 3,val :=.func (.func 187) #[] #[],born:=1}] 2)):=
  Gb (P:=Tryz.prog) (t:=191) (key:=3) (elem:=189) (kd :=.i64) (by kernel_rfl) (by kernel_rfl) hw1 3 (.func (.func 187) #[] #[]) rfl
 go_enter Tryz.func165,Tryz.ntmps165
 go_wp2
 go_ret
 exact ⟨w.heap.size,rfl,Nat.le_refl _,hlt3,⟨rfl,rfl,rfl,Nat.le_of_lt hlt3,fun k hk=>by
  rw [World.putObj_heap_other (Nat.ne_of_lt hk),World.putObj_heap_other (Nat.ne_of_lt hk)]
  show (w.heap.push (.map #[] 0))[k]? = _
  rw [Array.getElem?_push,if_neg (Nat.ne_of_lt hk)]⟩,_,_,hw2,rfl⟩
theorem mapExt:KN Tryz.prog 165 [] [.mp .i64 [(2,186),(3,187)]]:=by
 intro B w avs vs n hm hB hc
 have e:avs=[]:=by
  have:DD Tryz.prog 165 (fun i =>.t ((List.getD [] i default:Tree)))=some []:=by kernel_rfl
  rw [this] at hm
  exact (Option.some.inj hm).symm
 subst e
 obtain rfl:vs = #[]:=Array.eq_empty_of_size_eq_zero (by simpa using hc.1)
 refine (callsIn_wide (n:=n)).2 (MD w) |>.mono ?_
 rintro e w' ⟨b,rfl,h1,h2,h3,es,clock,h4,h5⟩
 refine ⟨_,.t (.mp .i64 [(2,186),(3,187)]),rfl,by kernel_rfl,.t _ _ (.mp .i64 _ b es clock h2 ?_ h4 (by rw [h5];rfl)),⟨h3.os,h3.tape,h3.output,h3.size,h3.block⟩,fun h => ?_⟩
 ·rintro (h|h)
  ·exact Nat.lt_irrefl _ (Nat.lt_of_lt_of_le (hB b h) h1)
  ·exact DK h
 ·have:CA Tryz.prog 165=false:=by kernel_rfl
  rw [this] at h
  cases h
theorem repExt (s:ByteArray) (c:Int) (h0:0≤c∧c≤9223372036854775807∧s.size*c.toNat≤140737488355328):KN Tryz.prog 25 [.str s,.int .i64 c] [.str ⟨(Go.Lib.repeatL s.data.toList c.toNat).toArray⟩]:=by
 intro B w avs vs n hm hB hc
 have e:avs=[.t (.str s),.t (.int .i64 c)]:=by
  have:DD Tryz.prog 25 (fun i =>.t ((List.getD [.str s,.int .i64 c] i default:Tree)))=some [.t (.str s),.t (.int .i64 c)]:=by kernel_rfl
  rw [this] at hm
  exact (Option.some.inj hm).symm
 subst e
 obtain ⟨h1,h2,h3⟩:=h0
 obtain ⟨k,rfl⟩:∃k:Nat,c=(k:Int):=⟨c.toNat,by omega⟩
 simp only [Int.toNat_natCast] at h3 ⊢
 obtain rfl:vs = #[.string s,.int .i64 (k:Int)]:=by
  obtain ⟨hl,hv⟩:=hc
  obtain ⟨l⟩:=vs
  match l,hl with
  |[u,v],_=>
   have q0:=hv 0 _ rfl
   have q1:=hv 1 _ rfl
   simp only [Array.getD] at q0 q1
   have r0:u = .string s:=by
    cases q0 with|t _ _ q=>cases q with|str=>rfl
   have r1:v = .int .i64 (k:Int):=by
    cases q1 with|t _ _ q=>cases q with|int=>rfl
   rw [r0,r1]
 refine (callsIn_wide (n:=n)).2 (Tryz.strings_Repeat s k w (by omega) h3) |>.mono ?_
 rintro e w' ⟨rfl,h3⟩
 exact ⟨_,.t (.str _),rfl,by kernel_rfl,.t _ _ (.str _),⟨h3.os,h3.tape,h3.output,h3.size,h3.block⟩,fun _=>rfl⟩
theorem extOk:RC C:=by
 intro g xs ys _ h
 unfold C at h
 simp only at h
 unfold V3 at h
 split at h
 ·rename_i e
  subst e
  split at h
  ·split at h
   ·rename_i hq
    cases h
    exact repExt _ _ hq
   ·cases h
  ·cases h
 ·split at h
  ·rename_i e
   subst e
   split at h
   ·cases h;exact mapExt
   ·cases h
  ·cases h
end Ab
