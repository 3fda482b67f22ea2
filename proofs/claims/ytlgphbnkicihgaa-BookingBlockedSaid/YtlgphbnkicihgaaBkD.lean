/- Booking: checks of bookings; durations. -/
import Derived.Test.YtlgphbnkicihgaaBkC
set_option linter.unusedVariables false
set_option linter.unusedSimpArgs false
namespace Ab
open Go

/-- One round over the bookings. -/
def bookStep (cs : List Contact) (l : List Booking) (i : Nat) (_ : Unit) (b : Booking) : Rd Unit Int :=
  if validB cs b = false then .done 2 else if i = 0 then .next () else match l[i - 1]? with
    | some a => if a.contact < b.contact then .next () else if b.contact < a.contact ∨ b.beg ≤ a.beg then .done 9 else if b.beg < a.stop then .done 14 else .next ()
    | none => .next ()
def bookL (cs : List Contact) (l : List Booking) : Int := runL (bookStep cs l) (fun _ => 0) 0 l ()
def bookCheck (q : List Int) (cs : List Contact) (l : List Booking) : Int :=
  if planCheck q cs ≠ 0 then 1 else if l.length > 512 then 4 else bookL cs l

theorem s19 (q : List Int) (cs : List Contact) (l : List Booking) : Runs C 19 [.sl 1 (q.map encI), .sl 7 (cs.map Contact.enc), .sl 4 (l.map Booking.enc)] [tI (bookCheck q cs l)] := by
  refine Runs.of (fun n => e19 n _ _ _) ?_
  refine Ev.rw (T' := ?T') (s45 q cs) (fun n h => ?a) ?b
  case a =>
    simp only [h, vI_mk, vB_mk, vS_mk, vL_mk, sVer_mk, sOff_mk, sLen_mk, oVer_mk, oEs_mk, cI_mk, cB_mk, cS_mk, cL_mk, cVer_mk, cOff_mk, cLen_mk, gI_zero, gI_succ, gB_zero, gB_succ, gS_zero, gS_succ, gL_zero, gL_succ, okI_zero, okI_succ, okB_zero, okB_succ, okS_zero, okS_succ, okL_zero, okL_succ, isIntT_int, isBoolT_bool, isStrT_str, isSlT_sl, intOf_int, boolOf_bool, strOf_str, slOf_sl, treeOf_t, srVer_sref, srOff_sref, srLen_sref, ver_row, esOf_row, cellOf_box, List.getD_cons_zero, List.getD_cons_succ, decide_true, decide_false, cnd_true, cnd_false, true_and, and_true, false_and, and_false, Option.bind_some, Option.bind_none, List.length_cons, List.length_nil, List.length_map, List.getElem?_map, Option.map_some, Option.map_none, Int.toNat_natCast, reduceCtorEq, eq_self, if_true, if_false, Nat.zero_add, Nat.reduceAdd, Nat.reduceEqDiff, Int.natCast_nonneg, List.drop_zero, or_true, true_or, or_false, false_or, Bool.not_true, Bool.not_false, Bool.false_eq_true, decide_eq_true_eq, ge_iff_le, gt_iff_lt]
    rfl
  case b =>
    by_cases h1 : planCheck q cs = 0 ∧ l.length ≤ 512
    · simp only [h1.1, bne_self_eq_false, (show ¬ (512 : Int) < l.length by omega), vI_mk, vB_mk, vS_mk, vL_mk, sVer_mk, sOff_mk, sLen_mk, oVer_mk, oEs_mk, cI_mk, cB_mk, cS_mk, cL_mk, cVer_mk, cOff_mk, cLen_mk, gI_zero, gI_succ, gB_zero, gB_succ, gS_zero, gS_succ, gL_zero, gL_succ, okI_zero, okI_succ, okB_zero, okB_succ, okS_zero, okS_succ, okL_zero, okL_succ, isIntT_int, isBoolT_bool, isStrT_str, isSlT_sl, intOf_int, boolOf_bool, strOf_str, slOf_sl, treeOf_t, srVer_sref, srOff_sref, srLen_sref, ver_row, esOf_row, cellOf_box, List.getD_cons_zero, List.getD_cons_succ, decide_true, decide_false, cnd_true, cnd_false, true_and, and_true, false_and, and_false, Option.bind_some, Option.bind_none, List.length_cons, List.length_nil, List.length_map, List.getElem?_map, Option.map_some, Option.map_none, Int.toNat_natCast, reduceCtorEq, eq_self, if_true, if_false, Nat.zero_add, Nat.reduceAdd, Nat.reduceEqDiff, Int.natCast_nonneg, List.drop_zero, or_true, true_or, or_false, false_or, Bool.not_true, Bool.not_false, Bool.false_eq_true, decide_eq_true_eq, ge_iff_le, gt_iff_lt, bookCheck, ne_eq, not_true_eq_false, (show ¬ l.length > 512 by omega)]
      refine loop_overQ (fun r => [tI r]) l (fun i _ => (([.t (tI i)], []) : List AV × Heap)) (bookStep cs l) (fun _ => 0) (fun _ _ => True) () rfl trivial rfl
        (fun i s b hx hI => ?_) (fun _ _ _ _ _ _ _ => trivial) (fun s hI => Ev.of fun n again => ?_)
      · have hi := lt_of_some hx
        by_cases hi0 : i = 0
        · subst hi0
          refine (s46 q cs b).mono fun n h again => ?_
          simp only [vI_mk, vB_mk, vS_mk, vL_mk, sVer_mk, sOff_mk, sLen_mk, oVer_mk, oEs_mk, cI_mk, cB_mk, cS_mk, cL_mk, cVer_mk, cOff_mk, cLen_mk, gI_zero, gI_succ, gB_zero, gB_succ, gS_zero, gS_succ, gL_zero, gL_succ, okI_zero, okI_succ, okB_zero, okB_succ, okS_zero, okS_succ, okL_zero, okL_succ, isIntT_int, isBoolT_bool, isStrT_str, isSlT_sl, intOf_int, boolOf_bool, strOf_str, slOf_sl, treeOf_t, srVer_sref, srOff_sref, srLen_sref, ver_row, esOf_row, cellOf_box, List.getD_cons_zero, List.getD_cons_succ, decide_true, decide_false, cnd_true, cnd_false, true_and, and_true, false_and, and_false, Option.bind_some, Option.bind_none, List.length_cons, List.length_nil, List.length_map, List.getElem?_map, Option.map_some, Option.map_none, Int.toNat_natCast, reduceCtorEq, eq_self, if_true, if_false, Nat.zero_add, Nat.reduceAdd, Nat.reduceEqDiff, Int.natCast_nonneg, List.drop_zero, or_true, true_or, or_false, false_or, Bool.not_true, Bool.not_false, Bool.false_eq_true, decide_eq_true_eq, ge_iff_le, gt_iff_lt, hx, Booking.enc, h, w64_succ (show 0 < 4611686018427387904 by omega), (show ((0 : Nat) : Int) < l.length by omega), bookStep]
          cases validB cs b <;> simp [cnd_eq, Rd.go_done, Rd.go_next]
        · have hp : l[i - 1]? = some l[i - 1] := List.getElem?_eq_getElem (by omega)
          refine ((s46 q cs b).and (s47 l[i - 1] b)).mono fun n ⟨h, h2⟩ again => ?_
          simp only [Booking.enc, List.cons_append, List.nil_append] at h2
          simp only [vI_mk, vB_mk, vS_mk, vL_mk, sVer_mk, sOff_mk, sLen_mk, oVer_mk, oEs_mk, cI_mk, cB_mk, cS_mk, cL_mk, cVer_mk, cOff_mk, cLen_mk, gI_zero, gI_succ, gB_zero, gB_succ, gS_zero, gS_succ, gL_zero, gL_succ, okI_zero, okI_succ, okB_zero, okB_succ, okS_zero, okS_succ, okL_zero, okL_succ, isIntT_int, isBoolT_bool, isStrT_str, isSlT_sl, intOf_int, boolOf_bool, strOf_str, slOf_sl, treeOf_t, srVer_sref, srOff_sref, srLen_sref, ver_row, esOf_row, cellOf_box, List.getD_cons_zero, List.getD_cons_succ, decide_true, decide_false, cnd_true, cnd_false, true_and, and_true, false_and, and_false, Option.bind_some, Option.bind_none, List.length_cons, List.length_nil, List.length_map, List.getElem?_map, Option.map_some, Option.map_none, Int.toNat_natCast, reduceCtorEq, eq_self, if_true, if_false, Nat.zero_add, Nat.reduceAdd, Nat.reduceEqDiff, Int.natCast_nonneg, List.drop_zero, or_true, true_or, or_false, false_or, Bool.not_true, Bool.not_false, Bool.false_eq_true, decide_eq_true_eq, ge_iff_le, gt_iff_lt, hx, hp, Booking.enc, h, h2, w64_succ (show i < 4611686018427387904 by omega), w64_pred (show i < 4611686018427387904 by omega) (by omega), (show ((i : Nat) : Int) < l.length by omega), bookStep, if_neg hi0]
          rw [cnd_neg (show ¬ ((i : Int) == 0) = true by simp [hi0])]
          cases validB cs b
          · simp [cnd_eq, Rd.go_done]
          · simp only [cnd_eq, cmpB, cmpI]
            grind [Rd.go_done, Rd.go_next]
      · simp only [vI_mk, vB_mk, vS_mk, vL_mk, sVer_mk, sOff_mk, sLen_mk, oVer_mk, oEs_mk, cI_mk, cB_mk, cS_mk, cL_mk, cVer_mk, cOff_mk, cLen_mk, gI_zero, gI_succ, gB_zero, gB_succ, gS_zero, gS_succ, gL_zero, gL_succ, okI_zero, okI_succ, okB_zero, okB_succ, okS_zero, okS_succ, okL_zero, okL_succ, isIntT_int, isBoolT_bool, isStrT_str, isSlT_sl, intOf_int, boolOf_bool, strOf_str, slOf_sl, treeOf_t, srVer_sref, srOff_sref, srLen_sref, ver_row, esOf_row, cellOf_box, List.getD_cons_zero, List.getD_cons_succ, decide_true, decide_false, cnd_true, cnd_false, true_and, and_true, false_and, and_false, Option.bind_some, Option.bind_none, List.length_cons, List.length_nil, List.length_map, List.getElem?_map, Option.map_some, Option.map_none, Int.toNat_natCast, reduceCtorEq, eq_self, if_true, if_false, Nat.zero_add, Nat.reduceAdd, Nat.reduceEqDiff, Int.natCast_nonneg, List.drop_zero, or_true, true_or, or_false, false_or, Bool.not_true, Bool.not_false, Bool.false_eq_true, decide_eq_true_eq, ge_iff_le, gt_iff_lt, Int.lt_irrefl]
    · refine Ev.of fun n => ?_
      simp only [bookCheck]
      by_cases h2 : planCheck q cs = 0
      · simp only [h2, bne_self_eq_false, (show (512 : Int) < l.length by omega), vI_mk, vB_mk, vS_mk, vL_mk, sVer_mk, sOff_mk, sLen_mk, oVer_mk, oEs_mk, cI_mk, cB_mk, cS_mk, cL_mk, cVer_mk, cOff_mk, cLen_mk, gI_zero, gI_succ, gB_zero, gB_succ, gS_zero, gS_succ, gL_zero, gL_succ, okI_zero, okI_succ, okB_zero, okB_succ, okS_zero, okS_succ, okL_zero, okL_succ, isIntT_int, isBoolT_bool, isStrT_str, isSlT_sl, intOf_int, boolOf_bool, strOf_str, slOf_sl, treeOf_t, srVer_sref, srOff_sref, srLen_sref, ver_row, esOf_row, cellOf_box, List.getD_cons_zero, List.getD_cons_succ, decide_true, decide_false, cnd_true, cnd_false, true_and, and_true, false_and, and_false, Option.bind_some, Option.bind_none, List.length_cons, List.length_nil, List.length_map, List.getElem?_map, Option.map_some, Option.map_none, Int.toNat_natCast, reduceCtorEq, eq_self, if_true, if_false, Nat.zero_add, Nat.reduceAdd, Nat.reduceEqDiff, Int.natCast_nonneg, List.drop_zero, or_true, true_or, or_false, false_or, Bool.not_true, Bool.not_false, Bool.false_eq_true, decide_eq_true_eq, ge_iff_le, gt_iff_lt, ne_eq, not_true_eq_false, (show l.length > 512 by omega)]
      · simp [h2, cnd_eq]

theorem s20 (q : List Int) (cs : List Contact) (l : List Booking) : Runs C 20 [.sl 1 (q.map encI), .sl 7 (cs.map Contact.enc), .sl 4 (l.map Booking.enc)] [tI (bookCheck q cs l)] := by
  refine Runs.of (fun n => e20 n _ _ _) ?_
  refine Ev.rw (T' := ?T') (s48 q cs) (fun n h => ?a) ?b
  case a =>
    simp only [h, vI_mk, vB_mk, vS_mk, vL_mk, sVer_mk, sOff_mk, sLen_mk, oVer_mk, oEs_mk, cI_mk, cB_mk, cS_mk, cL_mk, cVer_mk, cOff_mk, cLen_mk, gI_zero, gI_succ, gB_zero, gB_succ, gS_zero, gS_succ, gL_zero, gL_succ, okI_zero, okI_succ, okB_zero, okB_succ, okS_zero, okS_succ, okL_zero, okL_succ, isIntT_int, isBoolT_bool, isStrT_str, isSlT_sl, intOf_int, boolOf_bool, strOf_str, slOf_sl, treeOf_t, srVer_sref, srOff_sref, srLen_sref, ver_row, esOf_row, cellOf_box, List.getD_cons_zero, List.getD_cons_succ, decide_true, decide_false, cnd_true, cnd_false, true_and, and_true, false_and, and_false, Option.bind_some, Option.bind_none, List.length_cons, List.length_nil, List.length_map, List.getElem?_map, Option.map_some, Option.map_none, Int.toNat_natCast, reduceCtorEq, eq_self, if_true, if_false, Nat.zero_add, Nat.reduceAdd, Nat.reduceEqDiff, Int.natCast_nonneg, List.drop_zero, or_true, true_or, or_false, false_or, Bool.not_true, Bool.not_false, Bool.false_eq_true, decide_eq_true_eq, ge_iff_le, gt_iff_lt]
    rfl
  case b =>
    by_cases h1 : planCheck q cs = 0 ∧ l.length ≤ 512
    · simp only [h1.1, bne_self_eq_false, (show ¬ (512 : Int) < l.length by omega), vI_mk, vB_mk, vS_mk, vL_mk, sVer_mk, sOff_mk, sLen_mk, oVer_mk, oEs_mk, cI_mk, cB_mk, cS_mk, cL_mk, cVer_mk, cOff_mk, cLen_mk, gI_zero, gI_succ, gB_zero, gB_succ, gS_zero, gS_succ, gL_zero, gL_succ, okI_zero, okI_succ, okB_zero, okB_succ, okS_zero, okS_succ, okL_zero, okL_succ, isIntT_int, isBoolT_bool, isStrT_str, isSlT_sl, intOf_int, boolOf_bool, strOf_str, slOf_sl, treeOf_t, srVer_sref, srOff_sref, srLen_sref, ver_row, esOf_row, cellOf_box, List.getD_cons_zero, List.getD_cons_succ, decide_true, decide_false, cnd_true, cnd_false, true_and, and_true, false_and, and_false, Option.bind_some, Option.bind_none, List.length_cons, List.length_nil, List.length_map, List.getElem?_map, Option.map_some, Option.map_none, Int.toNat_natCast, reduceCtorEq, eq_self, if_true, if_false, Nat.zero_add, Nat.reduceAdd, Nat.reduceEqDiff, Int.natCast_nonneg, List.drop_zero, or_true, true_or, or_false, false_or, Bool.not_true, Bool.not_false, Bool.false_eq_true, decide_eq_true_eq, ge_iff_le, gt_iff_lt, bookCheck, ne_eq, not_true_eq_false, (show ¬ l.length > 512 by omega)]
      refine loop_overQ (fun r => [tI r]) l (fun i _ => (([.t (tI i)], []) : List AV × Heap)) (bookStep cs l) (fun _ => 0) (fun _ _ => True) () rfl trivial rfl
        (fun i s b hx hI => ?_) (fun _ _ _ _ _ _ _ => trivial) (fun s hI => Ev.of fun n again => ?_)
      · have hi := lt_of_some hx
        by_cases hi0 : i = 0
        · subst hi0
          refine (s49 q cs b).mono fun n h again => ?_
          simp only [vI_mk, vB_mk, vS_mk, vL_mk, sVer_mk, sOff_mk, sLen_mk, oVer_mk, oEs_mk, cI_mk, cB_mk, cS_mk, cL_mk, cVer_mk, cOff_mk, cLen_mk, gI_zero, gI_succ, gB_zero, gB_succ, gS_zero, gS_succ, gL_zero, gL_succ, okI_zero, okI_succ, okB_zero, okB_succ, okS_zero, okS_succ, okL_zero, okL_succ, isIntT_int, isBoolT_bool, isStrT_str, isSlT_sl, intOf_int, boolOf_bool, strOf_str, slOf_sl, treeOf_t, srVer_sref, srOff_sref, srLen_sref, ver_row, esOf_row, cellOf_box, List.getD_cons_zero, List.getD_cons_succ, decide_true, decide_false, cnd_true, cnd_false, true_and, and_true, false_and, and_false, Option.bind_some, Option.bind_none, List.length_cons, List.length_nil, List.length_map, List.getElem?_map, Option.map_some, Option.map_none, Int.toNat_natCast, reduceCtorEq, eq_self, if_true, if_false, Nat.zero_add, Nat.reduceAdd, Nat.reduceEqDiff, Int.natCast_nonneg, List.drop_zero, or_true, true_or, or_false, false_or, Bool.not_true, Bool.not_false, Bool.false_eq_true, decide_eq_true_eq, ge_iff_le, gt_iff_lt, hx, Booking.enc, h, w64_succ (show 0 < 4611686018427387904 by omega), (show ((0 : Nat) : Int) < l.length by omega), bookStep]
          cases validB cs b <;> simp [cnd_eq, Rd.go_done, Rd.go_next]
        · have hp : l[i - 1]? = some l[i - 1] := List.getElem?_eq_getElem (by omega)
          refine ((s49 q cs b)).mono fun n h again => ?_
          simp only [vI_mk, vB_mk, vS_mk, vL_mk, sVer_mk, sOff_mk, sLen_mk, oVer_mk, oEs_mk, cI_mk, cB_mk, cS_mk, cL_mk, cVer_mk, cOff_mk, cLen_mk, gI_zero, gI_succ, gB_zero, gB_succ, gS_zero, gS_succ, gL_zero, gL_succ, okI_zero, okI_succ, okB_zero, okB_succ, okS_zero, okS_succ, okL_zero, okL_succ, isIntT_int, isBoolT_bool, isStrT_str, isSlT_sl, intOf_int, boolOf_bool, strOf_str, slOf_sl, treeOf_t, srVer_sref, srOff_sref, srLen_sref, ver_row, esOf_row, cellOf_box, List.getD_cons_zero, List.getD_cons_succ, decide_true, decide_false, cnd_true, cnd_false, true_and, and_true, false_and, and_false, Option.bind_some, Option.bind_none, List.length_cons, List.length_nil, List.length_map, List.getElem?_map, Option.map_some, Option.map_none, Int.toNat_natCast, reduceCtorEq, eq_self, if_true, if_false, Nat.zero_add, Nat.reduceAdd, Nat.reduceEqDiff, Int.natCast_nonneg, List.drop_zero, or_true, true_or, or_false, false_or, Bool.not_true, Bool.not_false, Bool.false_eq_true, decide_eq_true_eq, ge_iff_le, gt_iff_lt, hx, hp, Booking.enc, h, w64_succ (show i < 4611686018427387904 by omega), w64_pred (show i < 4611686018427387904 by omega) (by omega), (show ((i : Nat) : Int) < l.length by omega), bookStep, if_neg hi0]
          rw [cnd_neg (show ¬ ((i : Int) == 0) = true by simp [hi0])]
          cases validB cs b
          · simp [cnd_eq, Rd.go_done]
          · simp only [cnd_eq]
            grind [Rd.go_done, Rd.go_next]
      · simp only [vI_mk, vB_mk, vS_mk, vL_mk, sVer_mk, sOff_mk, sLen_mk, oVer_mk, oEs_mk, cI_mk, cB_mk, cS_mk, cL_mk, cVer_mk, cOff_mk, cLen_mk, gI_zero, gI_succ, gB_zero, gB_succ, gS_zero, gS_succ, gL_zero, gL_succ, okI_zero, okI_succ, okB_zero, okB_succ, okS_zero, okS_succ, okL_zero, okL_succ, isIntT_int, isBoolT_bool, isStrT_str, isSlT_sl, intOf_int, boolOf_bool, strOf_str, slOf_sl, treeOf_t, srVer_sref, srOff_sref, srLen_sref, ver_row, esOf_row, cellOf_box, List.getD_cons_zero, List.getD_cons_succ, decide_true, decide_false, cnd_true, cnd_false, true_and, and_true, false_and, and_false, Option.bind_some, Option.bind_none, List.length_cons, List.length_nil, List.length_map, List.getElem?_map, Option.map_some, Option.map_none, Int.toNat_natCast, reduceCtorEq, eq_self, if_true, if_false, Nat.zero_add, Nat.reduceAdd, Nat.reduceEqDiff, Int.natCast_nonneg, List.drop_zero, or_true, true_or, or_false, false_or, Bool.not_true, Bool.not_false, Bool.false_eq_true, decide_eq_true_eq, ge_iff_le, gt_iff_lt, Int.lt_irrefl]
    · refine Ev.of fun n => ?_
      simp only [bookCheck]
      by_cases h2 : planCheck q cs = 0
      · simp only [h2, bne_self_eq_false, (show (512 : Int) < l.length by omega), vI_mk, vB_mk, vS_mk, vL_mk, sVer_mk, sOff_mk, sLen_mk, oVer_mk, oEs_mk, cI_mk, cB_mk, cS_mk, cL_mk, cVer_mk, cOff_mk, cLen_mk, gI_zero, gI_succ, gB_zero, gB_succ, gS_zero, gS_succ, gL_zero, gL_succ, okI_zero, okI_succ, okB_zero, okB_succ, okS_zero, okS_succ, okL_zero, okL_succ, isIntT_int, isBoolT_bool, isStrT_str, isSlT_sl, intOf_int, boolOf_bool, strOf_str, slOf_sl, treeOf_t, srVer_sref, srOff_sref, srLen_sref, ver_row, esOf_row, cellOf_box, List.getD_cons_zero, List.getD_cons_succ, decide_true, decide_false, cnd_true, cnd_false, true_and, and_true, false_and, and_false, Option.bind_some, Option.bind_none, List.length_cons, List.length_nil, List.length_map, List.getElem?_map, Option.map_some, Option.map_none, Int.toNat_natCast, reduceCtorEq, eq_self, if_true, if_false, Nat.zero_add, Nat.reduceAdd, Nat.reduceEqDiff, Int.natCast_nonneg, List.drop_zero, or_true, true_or, or_false, false_or, Bool.not_true, Bool.not_false, Bool.false_eq_true, decide_eq_true_eq, ge_iff_le, gt_iff_lt, ne_eq, not_true_eq_false, (show l.length > 512 by omega)]
      · simp [h2, cnd_eq]

def ckCheck (q : List Int) (cs : List Contact) (l : List Booking) (k : Int) : Int :=
  if bookCheck q cs l ≠ 0 then 1 else if k < 0 ∨ cs.length ≤ k then 2 else 0
theorem s39 (q : List Int) (cs : List Contact) (l : List Booking) (k : Int) : Runs C 39 [.sl 1 (q.map encI), .sl 7 (cs.map Contact.enc), .sl 4 (l.map Booking.enc), tI k] [tI (ckCheck q cs l k)] := by
  refine Runs.of (fun n => e39 n _ _ _ _) ?_
  refine (s19 q cs l).mono fun n h => ?_
  simp only [h, vI_mk, vB_mk, vS_mk, vL_mk, sVer_mk, sOff_mk, sLen_mk, oVer_mk, oEs_mk, cI_mk, cB_mk, cS_mk, cL_mk, cVer_mk, cOff_mk, cLen_mk, gI_zero, gI_succ, gB_zero, gB_succ, gS_zero, gS_succ, gL_zero, gL_succ, okI_zero, okI_succ, okB_zero, okB_succ, okS_zero, okS_succ, okL_zero, okL_succ, isIntT_int, isBoolT_bool, isStrT_str, isSlT_sl, intOf_int, boolOf_bool, strOf_str, slOf_sl, treeOf_t, srVer_sref, srOff_sref, srLen_sref, ver_row, esOf_row, cellOf_box, List.getD_cons_zero, List.getD_cons_succ, decide_true, decide_false, cnd_true, cnd_false, true_and, and_true, false_and, and_false, Option.bind_some, Option.bind_none, List.length_cons, List.length_nil, List.length_map, List.getElem?_map, Option.map_some, Option.map_none, Int.toNat_natCast, reduceCtorEq, eq_self, if_true, if_false, Nat.zero_add, Nat.reduceAdd, Nat.reduceEqDiff, Int.natCast_nonneg, List.drop_zero, or_true, true_or, or_false, false_or, Bool.not_true, Bool.not_false, Bool.false_eq_true, decide_eq_true_eq, ge_iff_le, gt_iff_lt, tI_cnd, ckCheck]
  congr 3
  simp only [bne_iff_ne]
  grind
theorem s41 (q : List Int) (cs : List Contact) (l : List Booking) (k : Int) : Runs C 41 [.sl 1 (q.map encI), .sl 7 (cs.map Contact.enc), .sl 4 (l.map Booking.enc), tI k] [tI (ckCheck q cs l k)] := by
  refine Runs.of (fun n => e41 n _ _ _ _) ?_
  refine (s20 q cs l).mono fun n h => ?_
  simp only [h, vI_mk, vB_mk, vS_mk, vL_mk, sVer_mk, sOff_mk, sLen_mk, oVer_mk, oEs_mk, cI_mk, cB_mk, cS_mk, cL_mk, cVer_mk, cOff_mk, cLen_mk, gI_zero, gI_succ, gB_zero, gB_succ, gS_zero, gS_succ, gL_zero, gL_succ, okI_zero, okI_succ, okB_zero, okB_succ, okS_zero, okS_succ, okL_zero, okL_succ, isIntT_int, isBoolT_bool, isStrT_str, isSlT_sl, intOf_int, boolOf_bool, strOf_str, slOf_sl, treeOf_t, srVer_sref, srOff_sref, srLen_sref, ver_row, esOf_row, cellOf_box, List.getD_cons_zero, List.getD_cons_succ, decide_true, decide_false, cnd_true, cnd_false, true_and, and_true, false_and, and_false, Option.bind_some, Option.bind_none, List.length_cons, List.length_nil, List.length_map, List.getElem?_map, Option.map_some, Option.map_none, Int.toNat_natCast, reduceCtorEq, eq_self, if_true, if_false, Nat.zero_add, Nat.reduceAdd, Nat.reduceEqDiff, Int.natCast_nonneg, List.drop_zero, or_true, true_or, or_false, false_or, Bool.not_true, Bool.not_false, Bool.false_eq_true, decide_eq_true_eq, ge_iff_le, gt_iff_lt, tI_cnd, ckCheck]
  congr 3
  simp only [bne_iff_ne]
  grind

/-! ### durations -/
def ticks (c : Contact) (n : Int) : Int := (n + 7 + c.rate) / c.rate
theorem ticks_bound {c : Contact} (hr : 1 ≤ c.rate) {n : Int} (h0 : 0 ≤ n) (h1 : n ≤ 16) : 1 ≤ ticks c n ∧ ticks c n ≤ 24 := by
  unfold ticks
  constructor
  · exact Int.le_ediv_of_mul_le (by omega) (by omega)
  · have h : n + 7 + c.rate < 25 * c.rate := by omega
    have := Int.ediv_lt_of_lt_mul (by omega) h
    omega
theorem ticks_eq {c : Contact} (hr : 1 ≤ c.rate ∧ c.rate ≤ 1000) {n : Int} (h0 : 0 ≤ n) (h1 : n ≤ 16) : w64 (Int.tdiv (w64 (w64 (w64 (n + 8) + c.rate) - 1)) c.rate) = ticks c n := by
  have b := ticks_bound hr.1 h0 h1
  rw [w64_id (x := n + 8) (by omega) (by omega), w64_id (x := n + 8 + c.rate) (by omega) (by omega), w64_id (x := n + 8 + c.rate - 1) (by omega) (by omega)]
  rw [Int.tdiv_eq_ediv_of_nonneg (by omega), show n + 8 + c.rate - 1 = n + 7 + c.rate by omega]
  exact w64_id (by unfold ticks at b; omega) (by unfold ticks at b; omega)

theorem s74 (c : Contact) (hr : 1 ≤ c.rate ∧ c.rate ≤ 1000) (n : Int) (h0 : 0 ≤ n) (h1 : n ≤ 16) : Runs C 74 (c.enc ++ [tI n]) [tI (ticks c n)] := by
  refine Runs.of (fun n => e74 n _ _ _ _ _ _ _ _) (Ev.of fun m => ?_)
  rw [cnd_neg (by omega), ticks_eq hr h0 h1]
theorem s63 (c : Contact) (hr : 1 ≤ c.rate ∧ c.rate ≤ 1000) (n : Int) (h0 : 0 ≤ n) (h1 : n ≤ 16) : Runs C 63 (c.enc ++ [tI n]) [tI (ticks c n)] := by
  refine Runs.of (fun n => e63 n _ _ _ _ _ _ _ _) (Ev.of fun m => ?_)
  rw [cnd_neg (by omega), ticks_eq hr h0 h1]

/-- The ticks of all segments. -/
def passT (c : Contact) (n : Int) : Int := n / 16 * ticks c 16 + if n % 16 > 0 then ticks c (n % 16) else 0
theorem passT_bound {c : Contact} (hr : 1 ≤ c.rate) {n : Int} (h0 : 0 ≤ n) (h1 : n ≤ 65536) : 0 ≤ passT c n ∧ passT c n ≤ 24 * (n / 16 + 1) := by
  unfold passT
  have a := ticks_bound hr (n := 16) (by omega) (by omega)
  have b := ticks_bound hr (n := n % 16) (by omega) (by omega)
  have m1 : 0 ≤ n / 16 * ticks c 16 := Int.mul_nonneg (by omega) (by omega)
  have m2 : n / 16 * ticks c 16 ≤ n / 16 * 24 := Int.mul_le_mul_of_nonneg_left a.2 (by omega)
  split <;> omega

theorem passT_step {c : Contact} {n : Int} (h : 0 < n) : passT c n = ticks c (if 16 < n then 16 else n) + passT c (if n - 16 < 0 then 0 else n - 16) := by
  by_cases h1 : 16 ≤ n
  · have e1 : (if 16 < n then 16 else n) = 16 := by split <;> omega
    have e2 : (if n - 16 < 0 then 0 else n - 16) = n - 16 := by rw [if_neg (by omega)]
    rw [e1, e2]
    unfold passT
    rw [show n / 16 = (n - 16) / 16 + 1 by omega, show (n - 16) % 16 = n % 16 by omega, Int.add_mul]
    omega
  · have e1 : (if 16 < n then 16 else n) = n := by split <;> omega
    have e2 : (if n - 16 < 0 then 0 else n - 16) = 0 := by rw [if_pos (by omega)]
    rw [e1, e2]
    unfold passT
    rw [show n / 16 = 0 by omega, show n % 16 = n by omega]
    simp [h]

theorem s73 (c : Contact) (hr : 1 ≤ c.rate ∧ c.rate ≤ 1000) (n : Int) (h0 : 0 ≤ n) (h1 : n ≤ 65536) : Runs C 73 (c.enc ++ [tI n]) [tI (passT c n)] := by
  refine Runs.of (fun n => e73 n _ _ _ _ _ _ _ _) ?_
  refine while_overQ (fun r => [tI r]) (fun (s : Int × Int) => (([.t (tI s.1)], [.box [.t (tI s.2)], .box []]) : List AV × Heap))
    (fun s => if 0 < s.1 then .next (s.1 - 16, s.2 + ticks c (if 16 < s.1 then 16 else s.1)) else .done s.2) (fun s => -16 < s.1 ∧ s.1 ≤ 65536 ∧ 0 ≤ s.2 ∧ s.2 ≤ 24 * (4096 - s.1 / 16)) (fun s => (s.1 + 16).toNat)
    (fun s => s.2 + passT c (if s.1 < 0 then 0 else s.1)) (n, 0) rfl ⟨by omega, by omega, by omega, by omega⟩ (by simp only [Int.zero_add]; rw [if_neg (by omega)]) ?_ ?_ ?_
  · rintro ⟨a, b⟩ ⟨i1, i2, i3, i4⟩
    dsimp only at i1 i2 i3 i4
    by_cases ha : 0 < a
    · have hm : 0 ≤ (if 16 < a then 16 else a) ∧ (if 16 < a then 16 else a) ≤ 16 := by split <;> omega
      have tb := ticks_bound hr.1 hm.1 hm.2
      refine (s74 c hr _ hm.1 hm.2).mono fun m k again => ?_
      simp only [Contact.enc, List.cons_append, List.nil_append] at k
      simp only [vI_mk, vB_mk, vS_mk, vL_mk, sVer_mk, sOff_mk, sLen_mk, oVer_mk, oEs_mk, cI_mk, cB_mk, cS_mk, cL_mk, cVer_mk, cOff_mk, cLen_mk, gI_zero, gI_succ, gB_zero, gB_succ, gS_zero, gS_succ, gL_zero, gL_succ, okI_zero, okI_succ, okB_zero, okB_succ, okS_zero, okS_succ, okL_zero, okL_succ, isIntT_int, isBoolT_bool, isStrT_str, isSlT_sl, intOf_int, boolOf_bool, strOf_str, slOf_sl, treeOf_t, srVer_sref, srOff_sref, srLen_sref, ver_row, esOf_row, cellOf_box, List.getD_cons_zero, List.getD_cons_succ, decide_true, decide_false, cnd_true, cnd_false, true_and, and_true, false_and, and_false, Option.bind_some, Option.bind_none, List.length_cons, List.length_nil, List.length_map, List.getElem?_map, Option.map_some, Option.map_none, Int.toNat_natCast, reduceCtorEq, eq_self, if_true, if_false, Nat.zero_add, Nat.reduceAdd, Nat.reduceEqDiff, Int.natCast_nonneg, List.drop_zero, or_true, true_or, or_false, false_or, Bool.not_true, Bool.not_false, Bool.false_eq_true, decide_eq_true_eq, ge_iff_le, gt_iff_lt, ha, k, Rd.go_next]
      rw [w64_id (x := a - 16) (by omega) (by omega), w64_id (x := b + _) (by omega) (by omega)]
    · refine Ev.of fun m again => ?_
      simp only [vI_mk, vB_mk, vS_mk, vL_mk, sVer_mk, sOff_mk, sLen_mk, oVer_mk, oEs_mk, cI_mk, cB_mk, cS_mk, cL_mk, cVer_mk, cOff_mk, cLen_mk, gI_zero, gI_succ, gB_zero, gB_succ, gS_zero, gS_succ, gL_zero, gL_succ, okI_zero, okI_succ, okB_zero, okB_succ, okS_zero, okS_succ, okL_zero, okL_succ, isIntT_int, isBoolT_bool, isStrT_str, isSlT_sl, intOf_int, boolOf_bool, strOf_str, slOf_sl, treeOf_t, srVer_sref, srOff_sref, srLen_sref, ver_row, esOf_row, cellOf_box, List.getD_cons_zero, List.getD_cons_succ, decide_true, decide_false, cnd_true, cnd_false, true_and, and_true, false_and, and_false, Option.bind_some, Option.bind_none, List.length_cons, List.length_nil, List.length_map, List.getElem?_map, Option.map_some, Option.map_none, Int.toNat_natCast, reduceCtorEq, eq_self, if_true, if_false, Nat.zero_add, Nat.reduceAdd, Nat.reduceEqDiff, Int.natCast_nonneg, List.drop_zero, or_true, true_or, or_false, false_or, Bool.not_true, Bool.not_false, Bool.false_eq_true, decide_eq_true_eq, ge_iff_le, gt_iff_lt, ha, Rd.go_done]
  · rintro ⟨a, b⟩ ⟨a', b'⟩ ⟨i1, i2, i3, i4⟩ hs
    dsimp only at i1 i2 i3 i4 hs ⊢
    by_cases ha : 0 < a
    · have hm : 0 ≤ (if 16 < a then 16 else a) ∧ (if 16 < a then 16 else a) ≤ 16 := by split <;> omega
      have tb := ticks_bound hr.1 hm.1 hm.2
      simp only [ha, if_true, Rd.next.injEq, Prod.mk.injEq] at hs
      omega
    · simp [ha] at hs
  · rintro ⟨a, b⟩ ⟨i1, i2, i3, i4⟩
    dsimp only at i1 i2 i3 i4 ⊢
    by_cases ha : 0 < a
    · simp only [ha, if_true, Rd.fin]
      rw [if_neg (by omega), passT_step ha]
      omega
    · simp only [ha, if_false, Rd.fin]
      have e : (if a < 0 then 0 else a) = 0 := by split <;> omega
      rw [e]
      simp [passT]

theorem s62 (c : Contact) (hr : 1 ≤ c.rate ∧ c.rate ≤ 1000) (n : Int) (h0 : 0 ≤ n) (h1 : n ≤ 65536) : Runs C 62 (c.enc ++ [tI n]) [tI (passT c n)] := by
  refine Runs.of (fun n => e62 n _ _ _ _ _ _ _ _) ?_
  have e1 : Int.tmod n 16 = n % 16 := by rw [Int.tmod_eq_emod_of_nonneg h0]
  have e2 : Int.tdiv n 16 = n / 16 := by rw [Int.tdiv_eq_ediv_of_nonneg h0]
  have pb := passT_bound hr.1 h0 h1
  refine ((s63 c hr 16 (by omega) (by omega)).and (s63 c hr (n % 16) (by omega) (by omega))).mono fun m ⟨k1, k2⟩ => ?_
  simp only [Contact.enc, List.cons_append, List.nil_append] at k1 k2
  simp only [e1, e2, k1, k2, vI_mk, vB_mk, vS_mk, vL_mk, sVer_mk, sOff_mk, sLen_mk, oVer_mk, oEs_mk, cI_mk, cB_mk, cS_mk, cL_mk, cVer_mk, cOff_mk, cLen_mk, gI_zero, gI_succ, gB_zero, gB_succ, gS_zero, gS_succ, gL_zero, gL_succ, okI_zero, okI_succ, okB_zero, okB_succ, okS_zero, okS_succ, okL_zero, okL_succ, isIntT_int, isBoolT_bool, isStrT_str, isSlT_sl, intOf_int, boolOf_bool, strOf_str, slOf_sl, treeOf_t, srVer_sref, srOff_sref, srLen_sref, ver_row, esOf_row, cellOf_box, List.getD_cons_zero, List.getD_cons_succ, decide_true, decide_false, cnd_true, cnd_false, true_and, and_true, false_and, and_false, Option.bind_some, Option.bind_none, List.length_cons, List.length_nil, List.length_map, List.getElem?_map, Option.map_some, Option.map_none, Int.toNat_natCast, reduceCtorEq, eq_self, if_true, if_false, Nat.zero_add, Nat.reduceAdd, Nat.reduceEqDiff, Int.natCast_nonneg, List.drop_zero, or_true, true_or, or_false, false_or, Bool.not_true, Bool.not_false, Bool.false_eq_true, decide_eq_true_eq, ge_iff_le, gt_iff_lt]
  have m1 : 0 ≤ n / 16 * ticks c 16 := Int.mul_nonneg (by omega) (by have := ticks_bound hr.1 (n := 16) (by omega) (by omega); omega)
  have b2 := ticks_bound hr.1 (n := n % 16) (by omega) (by omega)
  unfold passT at pb ⊢
  rw [w64_id (x := n / 16) (by omega) (by omega)]
  by_cases hm : 0 < n % 16
  · simp only [hm, vI_mk, vB_mk, vS_mk, vL_mk, sVer_mk, sOff_mk, sLen_mk, oVer_mk, oEs_mk, cI_mk, cB_mk, cS_mk, cL_mk, cVer_mk, cOff_mk, cLen_mk, gI_zero, gI_succ, gB_zero, gB_succ, gS_zero, gS_succ, gL_zero, gL_succ, okI_zero, okI_succ, okB_zero, okB_succ, okS_zero, okS_succ, okL_zero, okL_succ, isIntT_int, isBoolT_bool, isStrT_str, isSlT_sl, intOf_int, boolOf_bool, strOf_str, slOf_sl, treeOf_t, srVer_sref, srOff_sref, srLen_sref, ver_row, esOf_row, cellOf_box, List.getD_cons_zero, List.getD_cons_succ, decide_true, decide_false, cnd_true, cnd_false, true_and, and_true, false_and, and_false, Option.bind_some, Option.bind_none, List.length_cons, List.length_nil, List.length_map, List.getElem?_map, Option.map_some, Option.map_none, Int.toNat_natCast, reduceCtorEq, eq_self, if_true, if_false, Nat.zero_add, Nat.reduceAdd, Nat.reduceEqDiff, Int.natCast_nonneg, List.drop_zero, or_true, true_or, or_false, false_or, Bool.not_true, Bool.not_false, Bool.false_eq_true, decide_eq_true_eq, ge_iff_le, gt_iff_lt] at pb ⊢
    rw [w64_id (x := n / 16 * ticks c 16) (by omega) (by omega), w64_id (by omega) (by omega)]
  · simp only [hm, vI_mk, vB_mk, vS_mk, vL_mk, sVer_mk, sOff_mk, sLen_mk, oVer_mk, oEs_mk, cI_mk, cB_mk, cS_mk, cL_mk, cVer_mk, cOff_mk, cLen_mk, gI_zero, gI_succ, gB_zero, gB_succ, gS_zero, gS_succ, gL_zero, gL_succ, okI_zero, okI_succ, okB_zero, okB_succ, okS_zero, okS_succ, okL_zero, okL_succ, isIntT_int, isBoolT_bool, isStrT_str, isSlT_sl, intOf_int, boolOf_bool, strOf_str, slOf_sl, treeOf_t, srVer_sref, srOff_sref, srLen_sref, ver_row, esOf_row, cellOf_box, List.getD_cons_zero, List.getD_cons_succ, decide_true, decide_false, cnd_true, cnd_false, true_and, and_true, false_and, and_false, Option.bind_some, Option.bind_none, List.length_cons, List.length_nil, List.length_map, List.getElem?_map, Option.map_some, Option.map_none, Int.toNat_natCast, reduceCtorEq, eq_self, if_true, if_false, Nat.zero_add, Nat.reduceAdd, Nat.reduceEqDiff, Int.natCast_nonneg, List.drop_zero, or_true, true_or, or_false, false_or, Bool.not_true, Bool.not_false, Bool.false_eq_true, decide_eq_true_eq, ge_iff_le, gt_iff_lt] at pb ⊢
    rw [w64_id (by omega) (by omega), Int.add_zero]
end Ab
