/- The small rules, in one. -/
import Derived.Test.YthgemjameiibpaaDoorAbT2
set_option linter.unusedVariables false
namespace Ab
open Go
theorem vv :
    (∀ (e : List AV) (h : Heap) (k : Nat), vI (e, h) k = intOf (treeOf (List.getD e k AV.undef))) ∧
    (∀ (e : List AV) (h : Heap) (k : Nat), vB (e, h) k = boolOf (treeOf (List.getD e k AV.undef))) ∧
    (∀ (e : List AV) (h : Heap) (k : Nat), vS (e, h) k = strOf (treeOf (List.getD e k AV.undef))) ∧
    (∀ (e : List AV) (h : Heap) (k : Nat), vL (e, h) k = slOf (treeOf (List.getD e k AV.undef))) ∧
    (∀ (e : List AV) (h : Heap) (k : Nat), sVer (e, h) k = srVer (List.getD e k AV.undef)) ∧
    (∀ (e : List AV) (h : Heap) (k : Nat), sOff (e, h) k = srOff (List.getD e k AV.undef)) ∧
    (∀ (e : List AV) (h : Heap) (k : Nat), sLen (e, h) k = srLen (List.getD e k AV.undef)) ∧
    (∀ (e : List AV) (h : Heap) (k : Nat), oVer (e, h) k = AObj.ver (List.getD h k default)) ∧
    (∀ (e : List AV) (h : Heap) (k : Nat), oEs (e, h) k = esOf (List.getD h k default)) ∧
    (∀ (e : List AV) (h : Heap) (k j : Nat), cI (e, h) k j = intOf (treeOf (cellOf (List.getD h k default) j))) ∧
    (∀ (e : List AV) (h : Heap) (k j : Nat), cB (e, h) k j = boolOf (treeOf (cellOf (List.getD h k default) j))) ∧
    (∀ (e : List AV) (h : Heap) (k j : Nat), cS (e, h) k j = strOf (treeOf (cellOf (List.getD h k default) j))) ∧
    (∀ (e : List AV) (h : Heap) (k j : Nat), cL (e, h) k j = slOf (treeOf (cellOf (List.getD h k default) j))) ∧
    (∀ (e : List AV) (h : Heap) (k j : Nat), cVer (e, h) k j = srVer (cellOf (List.getD h k default) j)) ∧
    (∀ (e : List AV) (h : Heap) (k j : Nat), cOff (e, h) k j = srOff (cellOf (List.getD h k default) j)) ∧
    (∀ (e : List AV) (h : Heap) (k j : Nat), cLen (e, h) k j = srLen (cellOf (List.getD h k default) j)) ∧
    (∀ (x : Tree) (l : List Tree), gI (x :: l) (0 : Nat) = intOf x) ∧
    (∀ (x : Tree) (l : List Tree) (k : Nat), gI (x :: l) (k + (1 : Nat)) = gI l k) ∧
    (∀ (x : Tree) (l : List Tree), gB (x :: l) (0 : Nat) = boolOf x) ∧
    (∀ (x : Tree) (l : List Tree) (k : Nat), gB (x :: l) (k + (1 : Nat)) = gB l k) ∧
    (∀ (x : Tree) (l : List Tree), gS (x :: l) (0 : Nat) = strOf x) ∧
    (∀ (x : Tree) (l : List Tree) (k : Nat), gS (x :: l) (k + (1 : Nat)) = gS l k) ∧
    (∀ (x : Tree) (l : List Tree), gL (x :: l) (0 : Nat) = slOf x) ∧
    (∀ (x : Tree) (l : List Tree) (k : Nat), gL (x :: l) (k + (1 : Nat)) = gL l k) ∧
    (∀ (x : Tree) (l : List Tree), okI (x :: l) (0 : Nat) = (isIntT IntKind.i64 x = true)) ∧
    (∀ (x : Tree) (l : List Tree) (k : Nat), okI (x :: l) (k + (1 : Nat)) = okI l k) ∧
    (∀ (x : Tree) (l : List Tree), okB (x :: l) (0 : Nat) = (isBoolT x = true)) ∧
    (∀ (x : Tree) (l : List Tree) (k : Nat), okB (x :: l) (k + (1 : Nat)) = okB l k) ∧
    (∀ (x : Tree) (l : List Tree), okS (x :: l) (0 : Nat) = (isStrT x = true)) ∧
    (∀ (x : Tree) (l : List Tree) (k : Nat), okS (x :: l) (k + (1 : Nat)) = okS l k) ∧
    (∀ (z : Nat) (x : Tree) (l : List Tree), okL z (x :: l) (0 : Nat) = (isSlT z x = true)) ∧
    (∀ (z : Nat) (x : Tree) (l : List Tree) (k : Nat), okL z (x :: l) (k + (1 : Nat)) = okL z l k) ∧
    (∀ (k : IntKind) (n : Int), isIntT k (Tree.int k n) = true) ∧
    (∀ (b : Bool), isBoolT (Tree.bool b) = true) ∧
    (∀ (b : ByteArray), isStrT (Tree.str b) = true) ∧
    (∀ (z : Nat) (es : List (List Tree)), isSlT z (Tree.sl z es) = true) ∧
    (∀ (k : IntKind) (n : Int), intOf (Tree.int k n) = n) ∧
    (∀ (b : Bool), boolOf (Tree.bool b) = b) ∧
    (∀ (b : ByteArray), strOf (Tree.str b) = b) ∧
    (∀ (z : Nat) (es : List (List Tree)), slOf (Tree.sl z es) = es) ∧
    (∀ (x : Tree), treeOf (AV.t x) = x) ∧
    (∀ (i v o l : Nat), srVer (AV.sref i v o l) = v) ∧
    (∀ (i v o l : Nat), srOff (AV.sref i v o l) = o) ∧
    (∀ (i v o l : Nat), srLen (AV.sref i v o l) = l) ∧
    (∀ (f : Bool) (v z : Nat) (es : List (List Tree)), AObj.ver (AObj.row f v z es) = v) ∧
    (∀ (f : Bool) (v z : Nat) (es : List (List Tree)), esOf (AObj.row f v z es) = es) ∧
    (∀ (cs : List AV) (j : Nat), cellOf (AObj.box cs) j = List.getD cs j AV.undef) ∧
    (∀ (e : List AV) (h : Heap) (k j : Nat), aI (e, h) k j = intOf (treeOf (List.getD (aggOf (List.getD e k AV.undef)) j AV.undef))) ∧
    (∀ (e : List AV) (h : Heap) (k j : Nat), aB (e, h) k j = boolOf (treeOf (List.getD (aggOf (List.getD e k AV.undef)) j AV.undef))) ∧
    (∀ (e : List AV) (h : Heap) (k j : Nat), aS (e, h) k j = strOf (treeOf (List.getD (aggOf (List.getD e k AV.undef)) j AV.undef))) ∧
    (∀ (e : List AV) (h : Heap) (k j : Nat), aL (e, h) k j = slOf (treeOf (List.getD (aggOf (List.getD e k AV.undef)) j AV.undef))) ∧
    (∀ (cs : List AV), aggOf (AV.agg cs) = cs) ∧
    (∀ {R S : Type} (J : S → Option R) (f : (S → Option R) → Option R), join J f = f J) ∧
    (∀ {α : Type} {x : α} {xs : List α} {d : α}, List.getD (x :: xs) (0 : Nat) d = x) ∧
    (∀ {α : Type} {x : α} {xs : List α} {n : Nat} {d : α}, List.getD (x :: xs) (n + (1 : Nat)) d = List.getD xs n d) ∧
    (∀ (h : Decidable True), @decide True h = true) ∧
    (∀ (h : Decidable False), @decide False h = false) ∧
    (∀ {R : Type} {i : Decidable True} (a b : Option R), @cnd R True i a b = a) ∧
    (∀ {R : Type} {i : Decidable False} (a b : Option R), @cnd R False i a b = b) ∧
    (∀ (p : Prop), (True ∧ p) = p) ∧
    (∀ (p : Prop), (p ∧ True) = p) ∧
    (∀ (p : Prop), (False ∧ p) = False) ∧
    (∀ (p : Prop), (p ∧ False) = False) ∧
    (∀ {α β : Type} (a : α) (f : α → Option β), Option.bind (some a) f = f a) ∧
    (∀ {α β : Type} (f : α → Option β), Option.bind (none : Option α) f = none) ∧
    (∀ {α : Type} {a : α} {l : List α}, List.length (a :: l) = List.length l + (1 : Nat)) ∧
    (∀ {α : Type}, List.length ([] : List α) = (0 : Nat)) ∧
    (∀ {α β : Type} {l : List α} (f : α → β), List.length (List.map f l) = List.length l) ∧
    (∀ {α β : Type} {f : α → β} {l : List α} {i : Nat}, (List.map f l)[i]? = Option.map f l[i]?) ∧
    (∀ {α β : Type} (a : α) (f : α → β), Option.map f (some a) = some (f a)) ∧
    (∀ {α β : Type} (f : α → β), Option.map f (none : Option α) = none) ∧
    (∀ (n : Nat), Int.toNat (n : Int) = n) ∧
    (∀ {α : Type} (a : α), (a = a) = True) ∧
    (∀ {α : Type} {x : Decidable True} (t e : α), @ite α True x t e = t) ∧
    (∀ {α : Type} {x : Decidable False} (t e : α), @ite α False x t e = e) ∧
    (∀ (n : Nat), (0 : Nat) + n = n) ∧
    (∀ (n : Nat), (0 : Int) ≤ (n : Int)) ∧
    (∀ {α : Type} {l : List α}, List.drop (0 : Nat) l = l) ∧
    (∀ (p : Prop), (p ∨ True) = True) ∧
    (∀ (p : Prop), (True ∨ p) = True) ∧
    (∀ (p : Prop), (p ∨ False) = p) ∧
    (∀ (p : Prop), (False ∨ p) = p) ∧
    ((!true) = false) ∧
    ((!false) = true) ∧
    ((false = true) = False) ∧
    (∀ {p : Prop} [inst : Decidable p], (decide p = true) = p) ∧
    (∀ {α : Type} [inst : LE α] {x y : α}, x ≥ y ↔ y ≤ x) ∧
    (∀ {α : Type} [inst : LT α] {x y : α}, x > y ↔ y < x) :=
  ⟨@vI_mk, @vB_mk, @vS_mk, @vL_mk, @sVer_mk, @sOff_mk, @sLen_mk, @oVer_mk, @oEs_mk, @cI_mk, @cB_mk, @cS_mk, @cL_mk, @cVer_mk, @cOff_mk, @cLen_mk, @gI_zero, @gI_succ, @gB_zero, @gB_succ, @gS_zero, @gS_succ, @gL_zero, @gL_succ, @okI_zero, @okI_succ, @okB_zero, @okB_succ, @okS_zero, @okS_succ, @okL_zero, @okL_succ, @isIntT_int, @isBoolT_bool, @isStrT_str, @isSlT_sl, @intOf_int, @boolOf_bool, @strOf_str, @slOf_sl, @treeOf_t, @srVer_sref, @srOff_sref, @srLen_sref, @ver_row, @esOf_row, @cellOf_box, @aI_mk, @aB_mk, @aS_mk, @aL_mk, @aggOf_agg, @join_eq, @List.getD_cons_zero, @List.getD_cons_succ, @decide_true, @decide_false, @cnd_true, @cnd_false, @true_and, @and_true, @false_and, @and_false, @Option.bind_some, @Option.bind_none, @List.length_cons, @List.length_nil, @List.length_map, @List.getElem?_map, @Option.map_some, @Option.map_none, @Int.toNat_natCast, @eq_self, @if_true, @if_false, @Nat.zero_add, @Int.natCast_nonneg, @List.drop_zero, @or_true, @true_or, @or_false, @false_or, @Bool.not_true, @Bool.not_false, @Bool.false_eq_true, @decide_eq_true_eq, @ge_iff_le, @gt_iff_lt⟩
end Ab
