/- A part of the proof: see the last text. -/
import Derived.Test.YtglkblaagdoagaaAbW
import Derived.Test.YtglkblaagdoagaaAbI1
import Derived.Test.YtglkblaagdoagaaProg
import Derived.KernelRfl
set_option maxRecDepth 100000
namespace Ab
open Go Go.Proofs
def htab : HTab :=
[(3, [(5, [3, 26])], [(1, [3]), (0, [3])], [(21, []), (27, []), (77, [])], [(1, [21]), (9, [77]), (14, [2])], [(3, 3)], [3], [], [27]),
 (4, [], [], [(23, [])], [(9, [4])], [], [], [], [27]),
 (5, [], [], [(15, [])], [(7, [4])], [], [], [1], []),
 (6, [], [], [(22, []), (72, [])], [(1, [22]), (5, [72]), (9, [6])], [], [], [1, 2], []),
 (7, [], [], [(12, [])], [(5, [4])], [], [], [], []),
 (8, [(6, [6, 36]), (17, [7, 98])], [(1, [6]), (0, [6]), (3, [7]), (2, [7])], [(26, []), (37, []), (47, []), (86, []), (99, []), (109, [7])], [(1, [26]), (12, [86]), (23, [4])], [(6, 3), (7, 3)], [6, 7], [], [27]),
 (9, [(12, [118])], [(1, []), (0, [])], [(48, []), (112, []), (119, []), (125, [])], [(1, [48]), (9, [112]), (17, [6])], [], [], [], [27]),
 (10, [(4, [10])], [(1, []), (0, [])], [(7, []), (11, []), (18, []), (31, [])], [(8, [31])], [], [], [], [27]),
 (11, [], [], [], [(5, [0])], [], [], [], [27]),
 (12, [], [], [(11, [])], [(1, [11])], [], [], [], []),
 (13, [], [], [(7, []), (11, [])], [], [], [], [], []),
 (14, [], [], [(9, []), (19, [])], [], [], [], [0, 1], []),
 (15, [], [], [], [], [], [], [], []),
 (16, [], [], [(7, []), (12, [])], [], [], [], [], []),
 (17, [], [], [(10, []), (15, [7])], [], [], [], [1], []),
 (18, [(4, [7])], [(1, [7]), (0, [7])], [(10, []), (25, [])], [(4, [25])], [], [], [], []),
 (19, [], [], [(11, [])], [(1, [11])], [], [], [], []),
 (20, [(4, [13])], [(1, []), (0, [])], [(10, []), (14, []), (24, [])], [], [], [], [], []),
 (21, [], [], [(10, []), (14, []), (21, []), (24, [])], [], [], [], [1], []),
 (22, [], [], [(8, []), (12, []), (16, []), (20, [])], [], [], [], [1], []),
 (23, [], [], [(10, []), (18, [])], [], [], [], [1], []),
 (24, [(7, [6, 7])], [(1, [6]), (0, [6])], [(10, []), (15, []), (21, []), (29, [6])], [], [(6, 3)], [], [1], []),
 (25, [(4, [3])], [(1, []), (0, [])], [(6, []), (10, []), (18, []), (33, [])], [(8, [33])], [], [], [], []),
 (26, [(3, [3, 11]), (11, [6, 27])], [(1, [3]), (0, [3]), (3, [6]), (2, [6])], [(12, []), (20, []), (28, [])], [], [(6, 3)], [], [], []),
 (27, [], [], [], [], [], [], [], []),
 (28, [], [], [], [], [], [], [0], []),
 (29, [], [], [], [], [], [], [0], []),
 (30, [], [(1, []), (0, [])], [(15, [4, 5]), (26, [])], [(1, [15])], [(4, 3)], [4], [], [27]),
 (31, [(5, [6, 7])], [(1, [6]), (0, [6])], [(15, []), (21, []), (32, [])], [(1, [15])], [(6, 3)], [6], [], []),
 (32, [], [], [], [], [], [], [0], []),
 (33, [], [], [], [(1, [2])], [], [], [0], []),
 (34, [], [], [], [], [], [], [1], []),
 (35, [], [], [], [(1, [2])], [], [], [0], []),
 (36, [], [], [], [], [], [], [0, 1], []),
 (37, [], [], [(4, [])], [], [], [], [], []),
 (38, [], [], [], [], [], [], [], []),
 (39, [], [], [], [(1, [2])], [], [], [], []),
 (40, [(2, [8])], [(1, []), (0, [])], [(9, []), (16, [])], [], [], [], [], []),
 (41, [], [], [], [], [], [], [0], []),
 (42, [(3, [7, 8])], [(1, [7, 8]), (0, [7])], [(17, []), (28, [7, 8])], [(8, [4, 5])], [], [], [1], []),
 (43, [], [], [(16, []), (22, []), (31, []), (68, [])], [], [], [], [], []),
 (44, [(2, [5])], [(1, []), (0, [])], [(9, []), (17, [])], [], [], [], [1], []),
 (45, [(4, [5, 6, 7])], [(1, [5, 6]), (0, [5, 6])], [(15, []), (27, [5, 6]), (40, [5])], [(6, [27])], [(5, 3)], [], [1], []),
 (46, [], [], [(16, [])], [], [], [], [], []),
 (47, [], [], [(6, []), (16, [0])], [], [(0, 3)], [0], [], []),
 (48, [], [], [], [], [], [], [], []),
 (49, [(2, [8])], [(1, []), (0, [])], [(9, []), (16, [])], [], [], [], [1], []),
 (50, [(3, [8])], [(1, []), (0, [])], [(9, []), (14, [])], [], [], [], [], []),
 (51, [], [], [(12, []), (11, []), (13, []), (16, []), (19, [])], [], [], [], [], []),
 (52, [(2, [8])], [(1, []), (0, [])], [(9, []), (16, [])], [], [], [], [], []),
 (54, [], [], [], [], [], [], [], []),
 (55, [(0, [])], [(2, []), (1, []), (0, [])], [(13, []), (23, []), (30, []), (34, []), (49, []), (40, []), (61, [])], [(0, [13])], [], [], [], []),
 (56, [], [], [], [], [], [], [], []),
 (57, [], [], [], [], [], [], [], []),
 (58, [(1, [2, 3])], [(1, []), (0, [])], [(9, [])], [], [], [], [], [])]
def ρ43 : Go.Shelf.Ren := ⟨fun x => if x = 22 then 43 else if x = 29 then 53 else if x = 30 then 54 else 0, fun x => if x = 24 then 22 else if x = 9 then 27 else if x = 3 then 3 else if x = 4 then 4 else 0, fun x => x⟩
theorem lay43 : InsLay Try.prog ρ43 3 where
  mixed := by kernel_rfl
  f22 := ⟨"slices.Insert[[]mailboat/api.Event,mailboat/api.Event]", by decide, by kernel_rfl⟩
  f29 := ⟨_, rfl, by kernel_rfl, by kernel_rfl, by kernel_rfl, by kernel_rfl⟩
  t3 := by kernel_rfl
  a3 := fun w => by kernel_rfl
  z3 := fun w => by kernel_rfl
  v3 := fun w => by kernel_rfl
  t4 := by kernel_rfl
  a4 := fun w => by kernel_rfl
  z4 := fun w => by kernel_rfl
  v4 := fun w => by kernel_rfl
  z9 := fun w => by kernel_rfl
  t24 := by kernel_rfl
  a24 := fun w => by kernel_rfl
  z24 := fun w => by kernel_rfl
  v24 := fun w => by kernel_rfl
  i9 := ⟨_, _, rfl, rfl, rfl, rfl, by decide⟩
  pos := by decide
def ρ47 : Go.Shelf.Ren := ⟨fun x => if x = 4 then 47 else 0, fun x => if x = 0 then 0 else if x = 3 then 3 else if x = 4 then 4 else if x = 9 then 9 else if x = 20 then 20 else if x = 22 then 22 else if x = 25 then 27 else 0, fun x => x⟩
theorem lay47 : GrowLay Try.prog ρ47 3 where
  lay := {
    mixed := by kernel_rfl
    f4 := ⟨"slices.Grow[[]mailboat/api.Event,mailboat/api.Event]", by decide, by kernel_rfl⟩
    t0 := by kernel_rfl
    a0 := fun w => by kernel_rfl
    z0 := fun w => by kernel_rfl
    v0 := fun w => by kernel_rfl
    t3 := by kernel_rfl
    a3 := fun w => by kernel_rfl
    z3 := fun w => by kernel_rfl
    v3 := fun w => by kernel_rfl
    t4 := by kernel_rfl
    a4 := fun w => by kernel_rfl
    z4 := fun w => by kernel_rfl
    v4 := fun w => by kernel_rfl
    t9 := by kernel_rfl
    a9 := fun w => by kernel_rfl
    z9 := fun w => by kernel_rfl
    v9 := fun w => by kernel_rfl
    t20 := by kernel_rfl
    a20 := fun w => by kernel_rfl
    z20 := fun w => by kernel_rfl
    v20 := fun w => by kernel_rfl
    t22 := by kernel_rfl
    a22 := fun w => by kernel_rfl
    z22 := fun w => by kernel_rfl
    v22 := fun w => by kernel_rfl
  }
  i25 := ⟨_, _, rfl, rfl, rfl, rfl, by decide⟩
  pos := by decide
def primTab (g : Nat) : Option Prim := if g = 43 then some (.ins 3) else if g = 47 then some (.grow 3) else none
theorem primTab_ok (g : Nat) (p : Prim) (h : primTab g = some p) : PrimOk Try.prog g p := by
  unfold primTab at h
  split at h
  · rename_i e; cases h; exact ⟨ρ43, e.symm ▸ rfl, lay43⟩
  split at h
  · rename_i e; cases h; exact ⟨ρ47, e.symm ▸ rfl, lay47⟩
  cases h
noncomputable def C : Cfg := { P := Try.prog, heapful := fun g => [26, 27, 28, 29, 38, 40, 41, 43, 46, 47, 48, 52, 54, 55, 57, 58].contains g, own := fun g => [26, 37].contains g, prim := primTab, primOk := primTab_ok, cur := fun _ => false, curT := fun _ => false, depth := 12, hints := tabHints htab }
theorem mix : C.P.follows .mixedOrders = true := by kernel_rfl
end Ab
