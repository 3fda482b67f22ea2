/- A part of the proof: see the last text. -/
import Derived.Test.YtbpgmjfpfgpkjaaGreatDoorM6
set_option linter.unusedVariables false
set_option linter.unusedSimpArgs false
set_option maxRecDepth 1000000
namespace Ab
open Go
abbrev rR (e:REn):Prop:=REk C0.P e
theorem REk.c {e:REn} {l:List REn} (h:REk C0.P e) (t:aT C0.P l):aT C0.P (e :: l):=⟨h,t⟩
theorem rN:aT C0.P []:=trivial
theorem rW {e:REn} {l:List REn} (h:aT C0.P l) (k:stepT C0 l 5000 e = some e.2.2:=by kernel_rfl):REk C0.P e:=AI BB AQ h k
abbrev rt0:Tree:=.sl 7 [[tI 0,tI 1,tI 10,tI 60,tI 4,tI 5,tI 0],[tI 1,tI 2,tI 50,tI 100,tI 4,tI 5,tI 0]]
abbrev rt1:Tree:=.sl 1 [[tI 100],[tI 100],[tI 100]]
abbrev rt2:Tree:=.sl 5 [[tI 0,tI 0,tI 19,tI 20,tI 1],[tI 1,tI 10,tI 59,tI 20,tI 1]]
abbrev rt3:Tree:=.sl 4 [[tI 0,tI 10,tI 19,tI 24],[tI 1,tI 50,tI 59,tI 64]]
abbrev rt4:Tree:=.sl 4 [[tI 0,tI 10,tI 19,tI 1],[tI 1,tI 50,tI 59,tI 1]]
abbrev rt5:Tree:=.sl 4 []
abbrev rt6:Tree:=.sl 11 [[tI 1,tI 0,tI 2,tI 20,tI 0,tI 90,tI 0,.bool false,rt3,tI 1,tI 0]]
abbrev rt7:Tree:=.sl 2 [[tI 0,tI 1099511627776]]
abbrev rt8:Tree:=.sl 5 []
theorem k0:rR (14,[],[rt1,rt0]):=rW rN
theorem k1:rR (58,[tI 0,tI 0,tI 15],[.bool true]):=rW rN
theorem k2:rR (58,[tI 1,tI 0,tI 15],[.bool true]):=rW rN
theorem k3:rR (58,[tI 4,tI 1,tI 1000],[.bool true]):=rW rN
theorem k4:rR (58,[tI 5,tI 1,tI 1048576],[.bool true]):=rW rN
theorem k5:rR (58,[tI 0,tI 0,tI 16],[.bool true]):=rW rN
theorem k6:rR (57,[tI 0,tI 1,tI 10,tI 60,tI 4,tI 5,tI 0],[tI 0]):=rW (k1.c (k2.c (k3.c (k4.c (k5.c rN)))))
theorem k7:rR (58,[tI 2,tI 0,tI 15],[.bool true]):=rW rN
theorem k8:rR (57,[tI 1,tI 2,tI 50,tI 100,tI 4,tI 5,tI 0],[tI 0]):=rW (k2.c (k7.c (k3.c (k4.c (k5.c rN)))))
theorem k9:rR (72,[tI 1,tI 2,tI 50,tI 100,tI 4,tI 5,tI 0,tI 0,tI 1,tI 10,tI 60,tI 4,tI 5,tI 0],[.bool false]):=rW (k8.c (k6.c rN))
theorem k10:rR (34,[rt1,rt0],[tI 0]):=rW (k6.c (k8.c (k9.c rN)))
theorem k11:rR (13,[rt1,rt0],[rt1,rt0,rt5,.sl 11 [],tI 0]):=rW (k10.c rN)
theorem k12:rR (76,[rt1,rt0,rt5],[tI 0]):=rW (k10.c rN)
theorem k13:rR (1000078,[rt5],[rt5]):=rW rN
theorem k14:rR (81,[rt1,rt0,rt5,rt8],[rt1,rt0,rt5,rt8]):=rW rN
theorem k15:rR (38,[rt1,rt0,rt5,.sl 11 []],[rt1,rt0,rt5,rt8]):=rW (k13.c (k14.c rN))
theorem k16:rR (234,[.int .u64 0],[tI 0]):=rW rN
theorem k17:rR (186,[.int .u64 0],[tI 0]):=rW (k16.c rN)
theorem k18:rR (284,[.sl 1 [],tI 0,tI 0],[]):=rW rN
theorem k19:rR (254,[.sl 1 [],tI 0,tI 0,tI 0],[]):=rW (k18.c rN)
theorem k20:rR (218,[.sl 1 []],[]):=rW (k17.c (k19.c rN))
theorem k21:rR (176,[rt8,tI 0],[.sl 2 []]):=rW (k20.c rN)
theorem k22:rR (175,[.sl 2 []],[tI 0]):=rW rN
theorem k23:rR (176,[rt8,tI 1],[.sl 2 []]):=rW (k20.c rN)
theorem k24:rR (176,[rt8,tI 2],[.sl 2 []]):=rW (k20.c rN)
theorem k25:rR (123,[rt1,rt0,rt8],[tI 0]):=rW (k10.c (k21.c (k22.c (k23.c (k24.c rN)))))
theorem k26:rR (77,[rt1,rt0,rt5,rt8],[tI 0]):=rW (k10.c (k12.c (k25.c rN)))
theorem k27:rR (36,[rt1,rt0,rt5,.sl 11 []],[tI 0]):=rW (k10.c (k12.c (k15.c (k26.c rN))))
theorem k28:rR (24,[rt1,rt0,tI 0,tI 2,tI 20,tI 0,tI 90,tI 0,.bool false],[tI 0]):=rW (k10.c rN)
theorem k29:rR (37,[rt1,rt0,rt5,.sl 11 []],[.bool false]):=rW rN
theorem k30:rR (180,[rt1,rt0,rt5,tI 0],[tI 0]):=rW (k12.c rN)
theorem k31:rR (224,[rt5,tI 0],[.sl 2 []]):=rW rN
theorem k32:rR (181,[rt1,rt0,rt5,tI 0,tI 10],[.sl 2 [[tI 10,tI 60]]]):=rW (k31.c rN)
theorem k33:rR (133,[rt1,rt0,rt5,tI 0],[.sl 2 [[tI 10,tI 60]],tI 0]):=rW (k30.c (k32.c rN))
theorem k34:rR (58,[tI 20,tI 1,tI 65536],[.bool true]):=rW rN
theorem k35:rR (22,[tI 0,tI 1,tI 10,tI 60,tI 4,tI 5,tI 0,tI 20],[tI 0]):=rW (k6.c (k34.c rN))
theorem k36:rR (105,[tI 0,tI 1,tI 10,tI 60,tI 4,tI 5,tI 0,tI 16],[tI 6]):=rW rN
theorem k37:rR (105,[tI 0,tI 1,tI 10,tI 60,tI 4,tI 5,tI 0,tI 4],[tI 3]):=rW rN
theorem k38:rR (104,[tI 0,tI 1,tI 10,tI 60,tI 4,tI 5,tI 0,tI 20],[tI 9]):=rW (k36.c (k37.c rN))
theorem k39:rR (59,[tI 0,tI 1,tI 10,tI 60,tI 4,tI 5,tI 0,tI 20],[tI 9]):=rW (k38.c (k36.c rN))
theorem k40:rR (60,[tI 0,tI 1,tI 10,tI 60,tI 4,tI 5,tI 0,tI 20],[tI 9,tI 0]):=rW (k35.c (k39.c rN))
theorem k41:rR (180,[rt1,rt0,rt5,tI 1],[tI 0]):=rW (k12.c rN)
theorem k42:rR (224,[rt5,tI 1],[.sl 2 []]):=rW rN
theorem k43:rR (181,[rt1,rt0,rt5,tI 1,tI 50],[.sl 2 [[tI 50,tI 100]]]):=rW (k42.c rN)
theorem k44:rR (133,[rt1,rt0,rt5,tI 1],[.sl 2 [[tI 50,tI 100]],tI 0]):=rW (k41.c (k43.c rN))
theorem k45:rR (22,[tI 1,tI 2,tI 50,tI 100,tI 4,tI 5,tI 0,tI 20],[tI 0]):=rW (k8.c (k34.c rN))
theorem k46:rR (105,[tI 1,tI 2,tI 50,tI 100,tI 4,tI 5,tI 0,tI 16],[tI 6]):=rW rN
theorem k47:rR (105,[tI 1,tI 2,tI 50,tI 100,tI 4,tI 5,tI 0,tI 4],[tI 3]):=rW rN
theorem k48:rR (104,[tI 1,tI 2,tI 50,tI 100,tI 4,tI 5,tI 0,tI 20],[tI 9]):=rW (k46.c (k47.c rN))
theorem k49:rR (59,[tI 1,tI 2,tI 50,tI 100,tI 4,tI 5,tI 0,tI 20],[tI 9]):=rW (k48.c (k46.c rN))
theorem k50:rR (60,[tI 1,tI 2,tI 50,tI 100,tI 4,tI 5,tI 0,tI 20],[tI 9,tI 0]):=rW (k45.c (k49.c rN))
theorem k51:rR (134,[rt1,rt0,rt8,tI 0,tI 20],[rt7,tI 0]):=rW (k25.c (k21.c rN))
theorem k52:rR (134,[rt1,rt0,rt8,tI 1,tI 20],[rt7,tI 0]):=rW (k25.c (k23.c rN))
theorem k53:rR (134,[rt1,rt0,rt8,tI 2,tI 20],[rt7,tI 0]):=rW (k25.c (k24.c rN))
theorem k54:rR (87,[tI 0,tI 0,tI 1099511627776,tI 0,tI 0,tI 0,tI 1099511627776,tI 0],[.bool true]):=rW rN
theorem k55:rR (87,[tI 1,tI 0,tI 1099511627776,tI 24,tI 0,tI 0,tI 1099511627776,tI 0],[.bool false]):=rW rN
theorem k56:rR (87,[tI 1,tI 0,tI 1099511627776,tI 24,tI 1,tI 0,tI 1099511627776,tI 24],[.bool true]):=rW rN
theorem k57:rR (234,[.int .u64 2],[tI 2]):=rW rN
theorem k58:rR (186,[.int .u64 2],[tI 2]):=rW (k57.c rN)
theorem k59:rR (178,[tI 24],[.bool false]):=rW rN
theorem k60:rR (178,[tI 0],[.bool false]):=rW rN
theorem k61:rR (127,[tI 24,tI 0],[tI 1]):=rW (k59.c (k60.c rN))
theorem k62:rR (178,[tI 1],[.bool false]):=rW rN
theorem k63:rR (127,[tI 1,tI 0],[tI 1]):=rW (k62.c (k60.c rN))
theorem k64:rR (127,[tI 0,tI 0],[tI 0]):=rW (k60.c rN)
theorem k65:rR (126,[.sl 1 [[tI 1],[tI 1],[tI 0]]],[tI 1]):=rW rN
theorem k66:rR (136,[tI 1,tI 0,tI 1099511627776,tI 24,tI 0,tI 0,tI 1099511627776,tI 0],[tI 1]):=rW (k61.c (k63.c (k64.c (k65.c rN))))
theorem k67:rR (87,[tI 1,tI 0,tI 1099511627776,tI 24,tI 2,tI 0,tI 1099511627776,tI 64],[.bool false]):=rW rN
theorem k68:rR (87,[tI 2,tI 0,tI 1099511627776,tI 64,tI 2,tI 0,tI 1099511627776,tI 64],[.bool true]):=rW rN
theorem k69:rR (39,[rt1,rt0,rt5,rt8,tI 0,tI 2,tI 20,tI 0,tI 90,tI 0,.bool false],[rt3,tI 0]):=rW (k26.c (k28.c (k33.c (k40.c (k44.c (k50.c (k51.c (k52.c (k53.c (k54.c (k55.c (k56.c (k58.c (k66.c (k67.c (k68.c rN))))))))))))))))
theorem k70:rR (1000098,[.sl 11 []],[.sl 11 []]):=rW rN
theorem k71:rR (178,[tI 50],[.bool false]):=rW rN
theorem k72:rR (178,[tI 10],[.bool false]):=rW rN
theorem k73:rR (127,[tI 50,tI 10],[tI 1]):=rW (k71.c (k72.c rN))
theorem k74:rR (126,[.sl 1 [[tI 1],[tI 1]]],[tI 1]):=rW rN
theorem k75:rR (125,[tI 1,tI 50,tI 59,tI 1,tI 0,tI 10,tI 19,tI 1],[tI 1]):=rW (k63.c (k73.c (k74.c rN)))
theorem k76:rR (79,[rt3,tI 1],[rt4]):=rW (k75.c rN)
theorem k77:rR (129,[rt1,rt0,tI 0,tI 2,tI 20,tI 0,tI 90,tI 0,.bool false,tI 0,tI 10,tI 19,tI 24],[tI 19]):=rW rN
theorem k78:rR (129,[rt1,rt0,tI 0,tI 2,tI 20,tI 0,tI 90,tI 0,.bool false,tI 1,tI 50,tI 59,tI 64],[tI 59]):=rW rN
theorem k79:rR (80,[rt1,rt0,tI 0,tI 2,tI 20,tI 0,tI 90,tI 0,.bool false,rt3,tI 1,tI 0],[rt2]):=rW (k77.c (k78.c rN))
theorem k80:rR (130,[tI 1,tI 50,tI 59,tI 1,tI 0,tI 10,tI 19,tI 1],[tI 1]):=rW (k63.c (k73.c (k74.c rN)))
theorem k81:rR (127,[tI 10,tI 0],[tI 1]):=rW (k72.c (k60.c rN))
theorem k82:rR (178,[tI 59],[.bool false]):=rW rN
theorem k83:rR (178,[tI 19],[.bool false]):=rW rN
theorem k84:rR (127,[tI 59,tI 19],[tI 1]):=rW (k82.c (k83.c rN))
theorem k85:rR (127,[tI 1,tI 1],[tI 0]):=rW (k62.c rN)
theorem k86:rR (178,[tI 20],[.bool false]):=rW rN
theorem k87:rR (127,[tI 20,tI 20],[tI 0]):=rW (k86.c rN)
theorem k88:rR (126,[.sl 1 [[tI 1],[tI 1],[tI 1],[tI 0],[tI 0]]],[tI 1]):=rW rN
theorem k89:rR (132,[tI 1,tI 10,tI 59,tI 20,tI 1,tI 0,tI 0,tI 19,tI 20,tI 1],[tI 1]):=rW (k63.c (k81.c (k84.c (k85.c (k87.c (k88.c rN))))))
theorem k90:rR (81,[rt1,rt0,rt4,rt2],[rt1,rt0,rt4,rt2]):=rW (k80.c (k89.c rN))
theorem k91:rR (38,[rt1,rt0,rt5,rt6],[rt1,rt0,rt4,rt2]):=rW (k13.c (k76.c (k79.c (k90.c rN))))
theorem k92:rR (45,[rt1,rt0,rt4,rt2],[.bool false]):=rW rN
theorem k93:rR (15,[rt1,rt0,rt5,.sl 11 [],tI 0,tI 2,tI 20,tI 0,tI 90,tI 0,.bool false,tI 0],[rt1,rt0,rt5,rt6,.bool true,tI 1,.sl 1 [],.sl 1 [],rt5,tI 0]):=rW (k27.c (k28.c (k29.c (k15.c (k69.c (k70.c (k91.c (k92.c rN))))))))
theorem k94:rR (5,[],[.bool true]):=rW (k0.c (k11.c (k93.c rN)))
end Ab
namespace Ab
open Go
theorem ZN:Ib C.P 5 [] [.bool true]:=by
 have h:=k94;unfold rR REk at h;dsimp only at h;have hg:(5:Nat)<OWN:=by decide
 rw [if_pos hg] at h;exact h
theorem extOk:O7 C:=by
 intro g xs ys hg h;have h2:extT g xs=some ys:=h;unfold extT at h2;split at h2
 ·rename_i e;subst e;split at h2
  ·cases h2;exact ZN
  ·cases h2
 ·exact AQ g xs ys hg h2
end Ab
