/- Booking: plans, bookings. -/
import Derived.Test.YtlgphbnkicihgaaBkA
set_option linter.unusedVariables false
set_option linter.unusedSimpArgs false
namespace Ab
open Go

/-! ### plans -/
def qOk (x : Int) : Bool := decide (0 ≤ x ∧ x ≤ 1073741824)
/-- One round over the contacts. -/
def planStep (n : Int) (cs : List Contact) (i : Nat) (_ : Unit) (c : Contact) : Rd Unit Int :=
  if contactCheck c ≠ 0 then .done (contactCheck c) else if n ≤ c.frm ∨ n ≤ c.to then .done 2 else if (cs.take i).any (overlap c) = true then .done 14 else .next ()
def planCs (n : Int) (cs : List Contact) : Int := runL (planStep n cs) (fun _ => 0) 0 cs ()
def planCheck (q : List Int) (cs : List Contact) : Int :=
  if q.length < 1 ∨ q.length > 16 ∨ cs.length > 64 then 4 else if q.all qOk = true then planCs q.length cs else 2

theorem overlap_comm (a b : Contact) : overlap a b = overlap b a := by
  simp only [overlap, decide_eq_decide]
  omega

theorem s45 (q : List Int) (cs : List Contact) : Runs C 45 [.sl 1 (q.map encI), .sl 7 (cs.map Contact.enc)] [tI (planCheck q cs)] := by
  refine Runs.of (fun n => e45 n _ _) ?_
  simp only [List.length_map, decide_eq_true_eq]
  by_cases h0 : q.length < 1 ∨ q.length > 16 ∨ cs.length > 64
  · refine Ev.of fun n => ?_
    simp only [planCheck, if_pos h0, cnd_eq]
    grind
  simp only [planCheck, if_neg h0]
  simp only [cnd_neg (show ¬ ((q.length : Nat) : Int) < 1 by omega), cnd_neg (show ¬ ((q.length : Nat) : Int) > 16 by omega), cnd_neg (show ¬ ((cs.length : Nat) : Int) > 64 by omega)]
  refine loop_overQ (fun r => [tI r]) q (fun i _ => (([.t (tI i)], []) : List AV × Heap)) (fun i _ x => if qOk x = true then .next () else .done 2)
    (fun _ => planCs q.length cs) (fun i s => True) () rfl trivial (runL_all _ _ _ _ _) (fun i s x hx hI => Ev.of fun n again => ?_) (fun i s x s' hx hI h => trivial) (fun s hI => ?_)
  · have hi := lt_of_some hx
    simp only [vI_mk, vB_mk, vS_mk, vL_mk, sVer_mk, sOff_mk, sLen_mk, oVer_mk, oEs_mk, cI_mk, cB_mk, cS_mk, cL_mk, cVer_mk, cOff_mk, cLen_mk, gI_zero, gI_succ, gB_zero, gB_succ, gS_zero, gS_succ, gL_zero, gL_succ, okI_zero, okI_succ, okB_zero, okB_succ, okS_zero, okS_succ, okL_zero, okL_succ, isIntT_int, isBoolT_bool, isStrT_str, isSlT_sl, intOf_int, boolOf_bool, strOf_str, slOf_sl, treeOf_t, srVer_sref, srOff_sref, srLen_sref, ver_row, esOf_row, cellOf_box, List.getD_cons_zero, List.getD_cons_succ, decide_true, decide_false, cnd_true, cnd_false, true_and, and_true, false_and, and_false, Option.bind_some, Option.bind_none, List.length_cons, List.length_nil, List.length_map, List.getElem?_map, Option.map_some, Option.map_none, Int.toNat_natCast, reduceCtorEq, eq_self, if_true, if_false, Nat.zero_add, Nat.reduceAdd, Nat.reduceEqDiff, Int.natCast_nonneg, List.drop_zero, or_true, true_or, or_false, false_or, Bool.not_true, Bool.not_false, Bool.false_eq_true, decide_eq_true_eq, ge_iff_le, gt_iff_lt, hx, encI, qOk, w64_succ (show i < 4611686018427387904 by omega)]
    grind [cnd_eq, Rd.go_done, Rd.go_next]
  · simp only [vI_mk, vB_mk, vS_mk, vL_mk, sVer_mk, sOff_mk, sLen_mk, oVer_mk, oEs_mk, cI_mk, cB_mk, cS_mk, cL_mk, cVer_mk, cOff_mk, cLen_mk, gI_zero, gI_succ, gB_zero, gB_succ, gS_zero, gS_succ, gL_zero, gL_succ, okI_zero, okI_succ, okB_zero, okB_succ, okS_zero, okS_succ, okL_zero, okL_succ, isIntT_int, isBoolT_bool, isStrT_str, isSlT_sl, intOf_int, boolOf_bool, strOf_str, slOf_sl, treeOf_t, srVer_sref, srOff_sref, srLen_sref, ver_row, esOf_row, cellOf_box, List.getD_cons_zero, List.getD_cons_succ, decide_true, decide_false, cnd_true, cnd_false, true_and, and_true, false_and, and_false, Option.bind_some, Option.bind_none, List.length_cons, List.length_nil, List.length_map, List.getElem?_map, Option.map_some, Option.map_none, Int.toNat_natCast, reduceCtorEq, eq_self, if_true, if_false, Nat.zero_add, Nat.reduceAdd, Nat.reduceEqDiff, Int.natCast_nonneg, List.drop_zero, or_true, true_or, or_false, false_or, Bool.not_true, Bool.not_false, Bool.false_eq_true, decide_eq_true_eq, ge_iff_le, gt_iff_lt, Int.lt_irrefl]
    refine Ev.mono (fun n h again => h) ?_
    refine loop_overQ (fun r => [tI r]) cs (fun i _ => (([.t (tI i)], []) : List AV × Heap)) (planStep q.length cs) (fun _ => 0) (fun i s => True) () rfl trivial rfl (fun i s c hx hI => ?_) (fun i s x s' hx hI h => trivial) (fun s hI => Ev.of fun n again => ?_)
    · have hi := lt_of_some hx
      by_cases k1 : contactCheck c = 0 ∧ c.frm < q.length ∧ c.to < q.length
      · refine Ev.rwZ (T' := ?T') (s64 c) (fun n h again => ?a) ?b
        case a =>
          simp only [Contact.enc] at h
          simp only [vI_mk, vB_mk, vS_mk, vL_mk, sVer_mk, sOff_mk, sLen_mk, oVer_mk, oEs_mk, cI_mk, cB_mk, cS_mk, cL_mk, cVer_mk, cOff_mk, cLen_mk, gI_zero, gI_succ, gB_zero, gB_succ, gS_zero, gS_succ, gL_zero, gL_succ, okI_zero, okI_succ, okB_zero, okB_succ, okS_zero, okS_succ, okL_zero, okL_succ, isIntT_int, isBoolT_bool, isStrT_str, isSlT_sl, intOf_int, boolOf_bool, strOf_str, slOf_sl, treeOf_t, srVer_sref, srOff_sref, srLen_sref, ver_row, esOf_row, cellOf_box, List.getD_cons_zero, List.getD_cons_succ, decide_true, decide_false, cnd_true, cnd_false, true_and, and_true, false_and, and_false, Option.bind_some, Option.bind_none, List.length_cons, List.length_nil, List.length_map, List.getElem?_map, Option.map_some, Option.map_none, Int.toNat_natCast, reduceCtorEq, eq_self, if_true, if_false, Nat.zero_add, Nat.reduceAdd, Nat.reduceEqDiff, Int.natCast_nonneg, List.drop_zero, or_true, true_or, or_false, false_or, Bool.not_true, Bool.not_false, Bool.false_eq_true, decide_eq_true_eq, ge_iff_le, gt_iff_lt, hx, Contact.enc, w64_succ (show i < 4611686018427387904 by omega), h, k1.1, bne_self_eq_false, (show (i : Int) < cs.length by omega), (show ¬ (q.length : Int) ≤ c.frm by omega), (show ¬ (q.length : Int) ≤ c.to by omega), (show (i : Int) ≤ cs.length by omega)]
          rfl
        case b =>
          have hps : planStep q.length cs i s c = (if (cs.take i).any (overlap c) = true then .done 14 else .next ()) := by
            simp only [planStep]; rw [if_neg (by omega), if_neg (by omega)]
          simp only [hps, Rd.go_ite, Rd.go_done, Rd.go_next]
          refine loop_overZ (cs.take i) (fun j _ => (([.t (tI j)], [.box []]) : List AV × Heap)) (fun j _ d => if overlap c d = true then .done true else .next ()) (fun _ => false) (fun (again : List AV × Heap → Option (List Tree)) b => if b = true then some [tI 14] else again ([AV.t (tI ((i + 1 : Nat) : Int))], [])) (fun _ _ => True) () rfl trivial (runL_any _ _ _)
            (fun j s d hd hI => ?_) (fun _ _ _ _ _ _ _ => trivial) (fun s hI => Ev.of fun n again again2 => ?_)
          · have hj := lt_of_some hd
            refine (s67 c d).mono fun n h again again2 => ?_
            simp only [Contact.enc, List.cons_append, List.nil_append] at h
            simp only [vI_mk, vB_mk, vS_mk, vL_mk, sVer_mk, sOff_mk, sLen_mk, oVer_mk, oEs_mk, cI_mk, cB_mk, cS_mk, cL_mk, cVer_mk, cOff_mk, cLen_mk, gI_zero, gI_succ, gB_zero, gB_succ, gS_zero, gS_succ, gL_zero, gL_succ, okI_zero, okI_succ, okB_zero, okB_succ, okS_zero, okS_succ, okL_zero, okL_succ, isIntT_int, isBoolT_bool, isStrT_str, isSlT_sl, intOf_int, boolOf_bool, strOf_str, slOf_sl, treeOf_t, srVer_sref, srOff_sref, srLen_sref, ver_row, esOf_row, cellOf_box, List.getD_cons_zero, List.getD_cons_succ, decide_true, decide_false, cnd_true, cnd_false, true_and, and_true, false_and, and_false, Option.bind_some, Option.bind_none, List.length_cons, List.length_nil, List.length_map, List.getElem?_map, Option.map_some, Option.map_none, Int.toNat_natCast, reduceCtorEq, eq_self, if_true, if_false, Nat.zero_add, Nat.reduceAdd, Nat.reduceEqDiff, Int.natCast_nonneg, List.drop_zero, or_true, true_or, or_false, false_or, Bool.not_true, Bool.not_false, Bool.false_eq_true, decide_eq_true_eq, ge_iff_le, gt_iff_lt, ← List.map_take, hd, Contact.enc, h, w64_succ (show j < 4611686018427387904 by simp at hj; omega), (show (j : Int) < (cs.take i).length by omega)]
            by_cases ho : overlap c d = true <;> simp only [ho, cnd_eq, if_true, if_false, Rd.go_done, Rd.go_next, Bool.false_eq_true]
          · simp only [vI_mk, vB_mk, vS_mk, vL_mk, sVer_mk, sOff_mk, sLen_mk, oVer_mk, oEs_mk, cI_mk, cB_mk, cS_mk, cL_mk, cVer_mk, cOff_mk, cLen_mk, gI_zero, gI_succ, gB_zero, gB_succ, gS_zero, gS_succ, gL_zero, gL_succ, okI_zero, okI_succ, okB_zero, okB_succ, okS_zero, okS_succ, okL_zero, okL_succ, isIntT_int, isBoolT_bool, isStrT_str, isSlT_sl, intOf_int, boolOf_bool, strOf_str, slOf_sl, treeOf_t, srVer_sref, srOff_sref, srLen_sref, ver_row, esOf_row, cellOf_box, List.getD_cons_zero, List.getD_cons_succ, decide_true, decide_false, cnd_true, cnd_false, true_and, and_true, false_and, and_false, Option.bind_some, Option.bind_none, List.length_cons, List.length_nil, List.length_map, List.getElem?_map, Option.map_some, Option.map_none, Int.toNat_natCast, reduceCtorEq, eq_self, if_true, if_false, Nat.zero_add, Nat.reduceAdd, Nat.reduceEqDiff, Int.natCast_nonneg, List.drop_zero, or_true, true_or, or_false, false_or, Bool.not_true, Bool.not_false, Bool.false_eq_true, decide_eq_true_eq, ge_iff_le, gt_iff_lt, ← List.map_take, Int.lt_irrefl]
      · refine (s64 c).mono fun n h again => ?_
        simp only [Contact.enc] at h
        simp only [vI_mk, vB_mk, vS_mk, vL_mk, sVer_mk, sOff_mk, sLen_mk, oVer_mk, oEs_mk, cI_mk, cB_mk, cS_mk, cL_mk, cVer_mk, cOff_mk, cLen_mk, gI_zero, gI_succ, gB_zero, gB_succ, gS_zero, gS_succ, gL_zero, gL_succ, okI_zero, okI_succ, okB_zero, okB_succ, okS_zero, okS_succ, okL_zero, okL_succ, isIntT_int, isBoolT_bool, isStrT_str, isSlT_sl, intOf_int, boolOf_bool, strOf_str, slOf_sl, treeOf_t, srVer_sref, srOff_sref, srLen_sref, ver_row, esOf_row, cellOf_box, List.getD_cons_zero, List.getD_cons_succ, decide_true, decide_false, cnd_true, cnd_false, true_and, and_true, false_and, and_false, Option.bind_some, Option.bind_none, List.length_cons, List.length_nil, List.length_map, List.getElem?_map, Option.map_some, Option.map_none, Int.toNat_natCast, reduceCtorEq, eq_self, if_true, if_false, Nat.zero_add, Nat.reduceAdd, Nat.reduceEqDiff, Int.natCast_nonneg, List.drop_zero, or_true, true_or, or_false, false_or, Bool.not_true, Bool.not_false, Bool.false_eq_true, decide_eq_true_eq, ge_iff_le, gt_iff_lt, hx, Contact.enc, w64_succ (show i < 4611686018427387904 by omega), h, (show (i : Int) < cs.length by omega), planStep]
        by_cases k2 : contactCheck c = 0
        · simp only [k2, bne_self_eq_false, cnd_eq]
          grind [Rd.go_done]
        · simp [k2, cnd_eq, Rd.go_done]
    · simp only [vI_mk, vB_mk, vS_mk, vL_mk, sVer_mk, sOff_mk, sLen_mk, oVer_mk, oEs_mk, cI_mk, cB_mk, cS_mk, cL_mk, cVer_mk, cOff_mk, cLen_mk, gI_zero, gI_succ, gB_zero, gB_succ, gS_zero, gS_succ, gL_zero, gL_succ, okI_zero, okI_succ, okB_zero, okB_succ, okS_zero, okS_succ, okL_zero, okL_succ, isIntT_int, isBoolT_bool, isStrT_str, isSlT_sl, intOf_int, boolOf_bool, strOf_str, slOf_sl, treeOf_t, srVer_sref, srOff_sref, srLen_sref, ver_row, esOf_row, cellOf_box, List.getD_cons_zero, List.getD_cons_succ, decide_true, decide_false, cnd_true, cnd_false, true_and, and_true, false_and, and_false, Option.bind_some, Option.bind_none, List.length_cons, List.length_nil, List.length_map, List.getElem?_map, Option.map_some, Option.map_none, Int.toNat_natCast, reduceCtorEq, eq_self, if_true, if_false, Nat.zero_add, Nat.reduceAdd, Nat.reduceEqDiff, Int.natCast_nonneg, List.drop_zero, or_true, true_or, or_false, false_or, Bool.not_true, Bool.not_false, Bool.false_eq_true, decide_eq_true_eq, ge_iff_le, gt_iff_lt, Int.lt_irrefl]
end Ab
