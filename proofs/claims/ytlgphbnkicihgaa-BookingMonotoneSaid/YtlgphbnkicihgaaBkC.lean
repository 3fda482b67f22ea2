/- Booking: the reference's plans; valid bookings; their checks. -/
import Derived.Test.YtlgphbnkicihgaaBkB
set_option linter.unusedVariables false
set_option linter.unusedSimpArgs false
namespace Ab
open Go

theorem s48 (q : List Int) (cs : List Contact) : Runs C 48 [.sl 1 (q.map encI), .sl 7 (cs.map Contact.enc)] [tI (planCheck q cs)] := by
  refine Runs.of (fun n => e48 n _ _) ?_
  simp only [List.length_map, decide_eq_true_eq]
  by_cases h0 : q.length < 1 ∨ q.length > 16 ∨ cs.length > 64
  · refine Ev.of fun n => ?_
    simp only [planCheck, if_pos h0, cnd_eq]
    grind
  simp only [planCheck, if_neg h0]
  simp only [cnd_neg (show ¬ ((q.length : Nat) : Int) < 1 by omega), cnd_neg (show ¬ ((q.length : Nat) : Int) > 16 by omega), cnd_neg (show ¬ ((cs.length : Nat) : Int) > 64 by omega)]
  refine loop_overQ (fun r => [tI r]) q (fun i _ => (([.t (tI i)], []) : List AV × Heap)) (fun i _ x => if qOk x = true then .next () else .done 2)
    (fun _ => planCs q.length cs) (fun i s => True) () rfl trivial (runL_all _ _ _ _ _) (fun i s x hx hI => Ev.of fun n again => ?_) (fun i s x s' hx hI h => trivial) (fun s hI => ?_)
  · have hi := lt_of_some hx
    simp only [vI_mk, vB_mk, vS_mk, vL_mk, sVer_mk, sOff_mk, sLen_mk, oVer_mk, oEs_mk, cI_mk, cB_mk, cS_mk, cL_mk, cVer_mk, cOff_mk, cLen_mk, gI_zero, gI_succ, gB_zero, gB_succ, gS_zero, gS_succ, gL_zero, gL_succ, okI_zero, okI_succ, okB_zero, okB_succ, okS_zero, okS_succ, okL_zero, okL_succ, isIntT_int, isBoolT_bool, isStrT_str, isSlT_sl, intOf_int, boolOf_bool, strOf_str, slOf_sl, treeOf_t, srVer_sref, srOff_sref, srLen_sref, ver_row, esOf_row, cellOf_box, List.getD_cons_zero, List.getD_cons_succ, decide_true, decide_false, cnd_true, cnd_false, true_and, and_true, false_and, and_false, Option.bind_some, Option.bind_none, List.length_cons, List.length_nil, List.length_map, List.getElem?_map, Option.map_some, Option.map_none, Int.toNat_natCast, reduceCtorEq, eq_self, if_true, if_false, Nat.zero_add, Nat.reduceAdd, Nat.reduceEqDiff, Int.natCast_nonneg, List.drop_zero, or_true, true_or, or_false, false_or, Bool.not_true, Bool.not_false, Bool.false_eq_true, decide_eq_true_eq, ge_iff_le, gt_iff_lt, hx, encI, qOk, w64_succ (show i < 4611686018427387904 by omega)]
    grind [cnd_eq, Rd.go_done, Rd.go_next]
  · simp only [vI_mk, vB_mk, vS_mk, vL_mk, sVer_mk, sOff_mk, sLen_mk, oVer_mk, oEs_mk, cI_mk, cB_mk, cS_mk, cL_mk, cVer_mk, cOff_mk, cLen_mk, gI_zero, gI_succ, gB_zero, gB_succ, gS_zero, gS_succ, gL_zero, gL_succ, okI_zero, okI_succ, okB_zero, okB_succ, okS_zero, okS_succ, okL_zero, okL_succ, isIntT_int, isBoolT_bool, isStrT_str, isSlT_sl, intOf_int, boolOf_bool, strOf_str, slOf_sl, treeOf_t, srVer_sref, srOff_sref, srLen_sref, ver_row, esOf_row, cellOf_box, List.getD_cons_zero, List.getD_cons_succ, decide_true, decide_false, cnd_true, cnd_false, true_and, and_true, false_and, and_false, Option.bind_some, Option.bind_none, List.length_cons, List.length_nil, List.length_map, List.getElem?_map, Option.map_some, Option.map_none, Int.toNat_natCast, reduceCtorEq, eq_self, if_true, if_false, Nat.zero_add, Nat.reduceAdd, Nat.reduceEqDiff, Int.natCast_nonneg, List.drop_zero, or_true, true_or, or_false, false_or, Bool.not_true, Bool.not_false, Bool.false_eq_true, decide_eq_true_eq, ge_iff_le, gt_iff_lt, Int.lt_irrefl]
    refine Ev.mono (fun n h again => h) ?_
    refine loop_overQ (fun r => [tI r]) cs (fun i _ => (([.t (tI i)], []) : List AV × Heap)) (planStep q.length cs) (fun _ => 0) (fun i s => True) () rfl trivial rfl (fun i s c hx hI => ?_) (fun i s x s' hx hI h => trivial) (fun s hI => Ev.of fun n again => ?_)
    · have hi := lt_of_some hx
      by_cases k1 : contactCheck c = 0 ∧ c.frm < q.length ∧ c.to < q.length
      · refine Ev.rwZ (T' := ?T') (s70 c) (fun n h again => ?a) ?b
        case a =>
          simp only [Contact.enc] at h
          simp only [vI_mk, vB_mk, vS_mk, vL_mk, sVer_mk, sOff_mk, sLen_mk, oVer_mk, oEs_mk, cI_mk, cB_mk, cS_mk, cL_mk, cVer_mk, cOff_mk, cLen_mk, gI_zero, gI_succ, gB_zero, gB_succ, gS_zero, gS_succ, gL_zero, gL_succ, okI_zero, okI_succ, okB_zero, okB_succ, okS_zero, okS_succ, okL_zero, okL_succ, isIntT_int, isBoolT_bool, isStrT_str, isSlT_sl, intOf_int, boolOf_bool, strOf_str, slOf_sl, treeOf_t, srVer_sref, srOff_sref, srLen_sref, ver_row, esOf_row, cellOf_box, List.getD_cons_zero, List.getD_cons_succ, decide_true, decide_false, cnd_true, cnd_false, true_and, and_true, false_and, and_false, Option.bind_some, Option.bind_none, List.length_cons, List.length_nil, List.length_map, List.getElem?_map, Option.map_some, Option.map_none, Int.toNat_natCast, reduceCtorEq, eq_self, if_true, if_false, Nat.zero_add, Nat.reduceAdd, Nat.reduceEqDiff, Int.natCast_nonneg, List.drop_zero, or_true, true_or, or_false, false_or, Bool.not_true, Bool.not_false, Bool.false_eq_true, decide_eq_true_eq, ge_iff_le, gt_iff_lt, hx, Contact.enc, w64_succ (show i < 4611686018427387904 by omega), h, k1.1, bne_self_eq_false, (show (i : Int) < cs.length by omega), (show ¬ (q.length : Int) ≤ c.frm by omega), (show ¬ (q.length : Int) ≤ c.to by omega)]
          rfl
        case b =>
          have hps : planStep q.length cs i s c = (if (cs.take i).any (overlap c) = true then .done 14 else .next ()) := by
            simp only [planStep]; rw [if_neg (by omega), if_neg (by omega)]
          simp only [hps, Rd.go_ite, Rd.go_done, Rd.go_next]
          refine loop_overZ (cs.take i) (fun j _ => (([.t (tI j)], [.box []]) : List AV × Heap)) (fun j _ d => if overlap c d = true then .done true else .next ()) (fun _ => false) (fun (again : List AV × Heap → Option (List Tree)) b => if b = true then some [tI 14] else again ([AV.t (tI ((i + 1 : Nat) : Int))], [])) (fun _ _ => True) () rfl trivial (runL_any _ _ _)
            (fun j s d hd hI => ?_) (fun _ _ _ _ _ _ _ => trivial) (fun s hI => Ev.of fun n again again2 => ?_)
          · have hj := lt_of_some hd
            have hji : j < i := by simp at hj; omega
            have hd2 : cs[j]? = some d := by rw [List.getElem?_take_of_lt hji] at hd; exact hd
            refine (s71 d c).mono fun n h again again2 => ?_
            simp only [Contact.enc, List.cons_append, List.nil_append] at h
            simp only [vI_mk, vB_mk, vS_mk, vL_mk, sVer_mk, sOff_mk, sLen_mk, oVer_mk, oEs_mk, cI_mk, cB_mk, cS_mk, cL_mk, cVer_mk, cOff_mk, cLen_mk, gI_zero, gI_succ, gB_zero, gB_succ, gS_zero, gS_succ, gL_zero, gL_succ, okI_zero, okI_succ, okB_zero, okB_succ, okS_zero, okS_succ, okL_zero, okL_succ, isIntT_int, isBoolT_bool, isStrT_str, isSlT_sl, intOf_int, boolOf_bool, strOf_str, slOf_sl, treeOf_t, srVer_sref, srOff_sref, srLen_sref, ver_row, esOf_row, cellOf_box, List.getD_cons_zero, List.getD_cons_succ, decide_true, decide_false, cnd_true, cnd_false, true_and, and_true, false_and, and_false, Option.bind_some, Option.bind_none, List.length_cons, List.length_nil, List.length_map, List.getElem?_map, Option.map_some, Option.map_none, Int.toNat_natCast, reduceCtorEq, eq_self, if_true, if_false, Nat.zero_add, Nat.reduceAdd, Nat.reduceEqDiff, Int.natCast_nonneg, List.drop_zero, or_true, true_or, or_false, false_or, Bool.not_true, Bool.not_false, Bool.false_eq_true, decide_eq_true_eq, ge_iff_le, gt_iff_lt, hd2, Contact.enc, h, w64_succ (show j < 4611686018427387904 by omega), (show (j : Int) < i by omega), overlap_comm d c]
            by_cases ho : overlap c d = true <;> simp only [ho, cnd_eq, if_true, if_false, Rd.go_done, Rd.go_next, Bool.false_eq_true]
          · have e : (cs.take i).length = i := by simp; omega
            simp only [vI_mk, vB_mk, vS_mk, vL_mk, sVer_mk, sOff_mk, sLen_mk, oVer_mk, oEs_mk, cI_mk, cB_mk, cS_mk, cL_mk, cVer_mk, cOff_mk, cLen_mk, gI_zero, gI_succ, gB_zero, gB_succ, gS_zero, gS_succ, gL_zero, gL_succ, okI_zero, okI_succ, okB_zero, okB_succ, okS_zero, okS_succ, okL_zero, okL_succ, isIntT_int, isBoolT_bool, isStrT_str, isSlT_sl, intOf_int, boolOf_bool, strOf_str, slOf_sl, treeOf_t, srVer_sref, srOff_sref, srLen_sref, ver_row, esOf_row, cellOf_box, List.getD_cons_zero, List.getD_cons_succ, decide_true, decide_false, cnd_true, cnd_false, true_and, and_true, false_and, and_false, Option.bind_some, Option.bind_none, List.length_cons, List.length_nil, List.length_map, List.getElem?_map, Option.map_some, Option.map_none, Int.toNat_natCast, reduceCtorEq, eq_self, if_true, if_false, Nat.zero_add, Nat.reduceAdd, Nat.reduceEqDiff, Int.natCast_nonneg, List.drop_zero, or_true, true_or, or_false, false_or, Bool.not_true, Bool.not_false, Bool.false_eq_true, decide_eq_true_eq, ge_iff_le, gt_iff_lt, e, Int.lt_irrefl]
      · refine (s70 c).mono fun n h again => ?_
        simp only [Contact.enc] at h
        simp only [vI_mk, vB_mk, vS_mk, vL_mk, sVer_mk, sOff_mk, sLen_mk, oVer_mk, oEs_mk, cI_mk, cB_mk, cS_mk, cL_mk, cVer_mk, cOff_mk, cLen_mk, gI_zero, gI_succ, gB_zero, gB_succ, gS_zero, gS_succ, gL_zero, gL_succ, okI_zero, okI_succ, okB_zero, okB_succ, okS_zero, okS_succ, okL_zero, okL_succ, isIntT_int, isBoolT_bool, isStrT_str, isSlT_sl, intOf_int, boolOf_bool, strOf_str, slOf_sl, treeOf_t, srVer_sref, srOff_sref, srLen_sref, ver_row, esOf_row, cellOf_box, List.getD_cons_zero, List.getD_cons_succ, decide_true, decide_false, cnd_true, cnd_false, true_and, and_true, false_and, and_false, Option.bind_some, Option.bind_none, List.length_cons, List.length_nil, List.length_map, List.getElem?_map, Option.map_some, Option.map_none, Int.toNat_natCast, reduceCtorEq, eq_self, if_true, if_false, Nat.zero_add, Nat.reduceAdd, Nat.reduceEqDiff, Int.natCast_nonneg, List.drop_zero, or_true, true_or, or_false, false_or, Bool.not_true, Bool.not_false, Bool.false_eq_true, decide_eq_true_eq, ge_iff_le, gt_iff_lt, hx, Contact.enc, w64_succ (show i < 4611686018427387904 by omega), h, (show (i : Int) < cs.length by omega), planStep]
        by_cases k2 : contactCheck c = 0
        · simp only [k2, bne_self_eq_false, cnd_eq]
          grind [Rd.go_done]
        · simp [k2, cnd_eq, Rd.go_done]
    · simp only [vI_mk, vB_mk, vS_mk, vL_mk, sVer_mk, sOff_mk, sLen_mk, oVer_mk, oEs_mk, cI_mk, cB_mk, cS_mk, cL_mk, cVer_mk, cOff_mk, cLen_mk, gI_zero, gI_succ, gB_zero, gB_succ, gS_zero, gS_succ, gL_zero, gL_succ, okI_zero, okI_succ, okB_zero, okB_succ, okS_zero, okS_succ, okL_zero, okL_succ, isIntT_int, isBoolT_bool, isStrT_str, isSlT_sl, intOf_int, boolOf_bool, strOf_str, slOf_sl, treeOf_t, srVer_sref, srOff_sref, srLen_sref, ver_row, esOf_row, cellOf_box, List.getD_cons_zero, List.getD_cons_succ, decide_true, decide_false, cnd_true, cnd_false, true_and, and_true, false_and, and_false, Option.bind_some, Option.bind_none, List.length_cons, List.length_nil, List.length_map, List.getElem?_map, Option.map_some, Option.map_none, Int.toNat_natCast, reduceCtorEq, eq_self, if_true, if_false, Nat.zero_add, Nat.reduceAdd, Nat.reduceEqDiff, Int.natCast_nonneg, List.drop_zero, or_true, true_or, or_false, false_or, Bool.not_true, Bool.not_false, Bool.false_eq_true, decide_eq_true_eq, ge_iff_le, gt_iff_lt, Int.lt_irrefl]

/-! ### bookings -/
def validB (cs : List Contact) (b : Booking) : Bool :=
  if b.contact < 0 ∨ cs.length ≤ b.contact ∨ b.ticket < 0 ∨ 1152921504606846976 < b.ticket then false
  else match cs[b.contact.toNat]? with
    | some c => decide (c.start ≤ b.beg ∧ b.beg < b.stop ∧ b.stop ≤ c.stop)
    | none => false

theorem s46 (q : List Int) (cs : List Contact) (b : Booking) : Runs C 46 [.sl 1 (q.map encI), .sl 7 (cs.map Contact.enc), tI b.contact, tI b.beg, tI b.stop, tI b.ticket] [.bool (validB cs b)] := by
  refine Runs.of (fun n => e46 n _ _ _ _ _ _) (Ev.of fun n => ?_)
  simp only [vI_mk, vB_mk, vS_mk, vL_mk, sVer_mk, sOff_mk, sLen_mk, oVer_mk, oEs_mk, cI_mk, cB_mk, cS_mk, cL_mk, cVer_mk, cOff_mk, cLen_mk, gI_zero, gI_succ, gB_zero, gB_succ, gS_zero, gS_succ, gL_zero, gL_succ, okI_zero, okI_succ, okB_zero, okB_succ, okS_zero, okS_succ, okL_zero, okL_succ, isIntT_int, isBoolT_bool, isStrT_str, isSlT_sl, intOf_int, boolOf_bool, strOf_str, slOf_sl, treeOf_t, srVer_sref, srOff_sref, srLen_sref, ver_row, esOf_row, cellOf_box, List.getD_cons_zero, List.getD_cons_succ, decide_true, decide_false, cnd_true, cnd_false, true_and, and_true, false_and, and_false, Option.bind_some, Option.bind_none, List.length_cons, List.length_nil, List.length_map, List.getElem?_map, Option.map_some, Option.map_none, Int.toNat_natCast, reduceCtorEq, eq_self, if_true, if_false, Nat.zero_add, Nat.reduceAdd, Nat.reduceEqDiff, Int.natCast_nonneg, List.drop_zero, or_true, true_or, or_false, false_or, Bool.not_true, Bool.not_false, Bool.false_eq_true, decide_eq_true_eq, ge_iff_le, gt_iff_lt, validB]
  by_cases h : b.contact < 0 ∨ cs.length ≤ b.contact ∨ b.ticket < 0 ∨ 1152921504606846976 < b.ticket
  · simp only [if_pos h, cnd_eq]
    grind
  · have hlt : b.contact.toNat < cs.length := by omega
    have hc : cs[b.contact.toNat]? = some cs[b.contact.toNat] := List.getElem?_eq_getElem hlt
    simp only [if_neg h, hc, vI_mk, vB_mk, vS_mk, vL_mk, sVer_mk, sOff_mk, sLen_mk, oVer_mk, oEs_mk, cI_mk, cB_mk, cS_mk, cL_mk, cVer_mk, cOff_mk, cLen_mk, gI_zero, gI_succ, gB_zero, gB_succ, gS_zero, gS_succ, gL_zero, gL_succ, okI_zero, okI_succ, okB_zero, okB_succ, okS_zero, okS_succ, okL_zero, okL_succ, isIntT_int, isBoolT_bool, isStrT_str, isSlT_sl, intOf_int, boolOf_bool, strOf_str, slOf_sl, treeOf_t, srVer_sref, srOff_sref, srLen_sref, ver_row, esOf_row, cellOf_box, List.getD_cons_zero, List.getD_cons_succ, decide_true, decide_false, cnd_true, cnd_false, true_and, and_true, false_and, and_false, Option.bind_some, Option.bind_none, List.length_cons, List.length_nil, List.length_map, List.getElem?_map, Option.map_some, Option.map_none, Int.toNat_natCast, reduceCtorEq, eq_self, if_true, if_false, Nat.zero_add, Nat.reduceAdd, Nat.reduceEqDiff, Int.natCast_nonneg, List.drop_zero, or_true, true_or, or_false, false_or, Bool.not_true, Bool.not_false, Bool.false_eq_true, decide_eq_true_eq, ge_iff_le, gt_iff_lt, Contact.enc, (show ¬ b.contact < 0 by omega), (show ¬ (cs.length : Int) ≤ b.contact by omega), (show ¬ b.ticket < 0 by omega), (show ¬ 1152921504606846976 < b.ticket by omega), (show 0 ≤ b.contact by omega)]
    simp only [cnd_eq]
    grind

theorem s49 (q : List Int) (cs : List Contact) (b : Booking) : Runs C 49 [.sl 1 (q.map encI), .sl 7 (cs.map Contact.enc), tI b.contact, tI b.beg, tI b.stop, tI b.ticket] [.bool (validB cs b)] := by
  refine Runs.of (fun n => e49 n _ _ _ _ _ _) (Ev.of fun n => ?_)
  simp only [vI_mk, vB_mk, vS_mk, vL_mk, sVer_mk, sOff_mk, sLen_mk, oVer_mk, oEs_mk, cI_mk, cB_mk, cS_mk, cL_mk, cVer_mk, cOff_mk, cLen_mk, gI_zero, gI_succ, gB_zero, gB_succ, gS_zero, gS_succ, gL_zero, gL_succ, okI_zero, okI_succ, okB_zero, okB_succ, okS_zero, okS_succ, okL_zero, okL_succ, isIntT_int, isBoolT_bool, isStrT_str, isSlT_sl, intOf_int, boolOf_bool, strOf_str, slOf_sl, treeOf_t, srVer_sref, srOff_sref, srLen_sref, ver_row, esOf_row, cellOf_box, List.getD_cons_zero, List.getD_cons_succ, decide_true, decide_false, cnd_true, cnd_false, true_and, and_true, false_and, and_false, Option.bind_some, Option.bind_none, List.length_cons, List.length_nil, List.length_map, List.getElem?_map, Option.map_some, Option.map_none, Int.toNat_natCast, reduceCtorEq, eq_self, if_true, if_false, Nat.zero_add, Nat.reduceAdd, Nat.reduceEqDiff, Int.natCast_nonneg, List.drop_zero, or_true, true_or, or_false, false_or, Bool.not_true, Bool.not_false, Bool.false_eq_true, decide_eq_true_eq, ge_iff_le, gt_iff_lt, validB]
  by_cases h : b.contact < 0 ∨ cs.length ≤ b.contact ∨ b.ticket < 0 ∨ 1152921504606846976 < b.ticket
  · simp only [if_pos h, cnd_eq]
    grind
  · have hlt : b.contact.toNat < cs.length := by omega
    have hc : cs[b.contact.toNat]? = some cs[b.contact.toNat] := List.getElem?_eq_getElem hlt
    simp only [if_neg h, hc, vI_mk, vB_mk, vS_mk, vL_mk, sVer_mk, sOff_mk, sLen_mk, oVer_mk, oEs_mk, cI_mk, cB_mk, cS_mk, cL_mk, cVer_mk, cOff_mk, cLen_mk, gI_zero, gI_succ, gB_zero, gB_succ, gS_zero, gS_succ, gL_zero, gL_succ, okI_zero, okI_succ, okB_zero, okB_succ, okS_zero, okS_succ, okL_zero, okL_succ, isIntT_int, isBoolT_bool, isStrT_str, isSlT_sl, intOf_int, boolOf_bool, strOf_str, slOf_sl, treeOf_t, srVer_sref, srOff_sref, srLen_sref, ver_row, esOf_row, cellOf_box, List.getD_cons_zero, List.getD_cons_succ, decide_true, decide_false, cnd_true, cnd_false, true_and, and_true, false_and, and_false, Option.bind_some, Option.bind_none, List.length_cons, List.length_nil, List.length_map, List.getElem?_map, Option.map_some, Option.map_none, Int.toNat_natCast, reduceCtorEq, eq_self, if_true, if_false, Nat.zero_add, Nat.reduceAdd, Nat.reduceEqDiff, Int.natCast_nonneg, List.drop_zero, or_true, true_or, or_false, false_or, Bool.not_true, Bool.not_false, Bool.false_eq_true, decide_eq_true_eq, ge_iff_le, gt_iff_lt, Contact.enc, (show ¬ b.contact < 0 by omega), (show ¬ (cs.length : Int) ≤ b.contact by omega), (show ¬ b.ticket < 0 by omega), (show ¬ 1152921504606846976 < b.ticket by omega), (show 0 ≤ b.contact by omega)]
    simp only [cnd_eq]
    grind

def cmpI (a b : Int) : Int := if a < b then -1 else if b < a then 1 else 0
theorem s79 (a : Int) : Runs C 79 [tI a] [.bool false] := by
  refine Runs.of (fun n => e79 n _) (Ev.of fun n => ?_)
  simp
theorem s69 (a b : Int) : Runs C 69 [tI a, tI b] [tI (cmpI a b)] := by
  refine Runs.of (fun n => e69 n _ _) ?_
  refine ((s79 a).and (s79 b)).mono fun n h => ?_
  simp only [h.1, h.2, vI_mk, vB_mk, vS_mk, vL_mk, sVer_mk, sOff_mk, sLen_mk, oVer_mk, oEs_mk, cI_mk, cB_mk, cS_mk, cL_mk, cVer_mk, cOff_mk, cLen_mk, gI_zero, gI_succ, gB_zero, gB_succ, gS_zero, gS_succ, gL_zero, gL_succ, okI_zero, okI_succ, okB_zero, okB_succ, okS_zero, okS_succ, okL_zero, okL_succ, isIntT_int, isBoolT_bool, isStrT_str, isSlT_sl, intOf_int, boolOf_bool, strOf_str, slOf_sl, treeOf_t, srVer_sref, srOff_sref, srLen_sref, ver_row, esOf_row, cellOf_box, List.getD_cons_zero, List.getD_cons_succ, decide_true, decide_false, cnd_true, cnd_false, true_and, and_true, false_and, and_false, Option.bind_some, Option.bind_none, List.length_cons, List.length_nil, List.length_map, List.getElem?_map, Option.map_some, Option.map_none, Int.toNat_natCast, reduceCtorEq, eq_self, if_true, if_false, Nat.zero_add, Nat.reduceAdd, Nat.reduceEqDiff, Int.natCast_nonneg, List.drop_zero, or_true, true_or, or_false, false_or, Bool.not_true, Bool.not_false, Bool.false_eq_true, decide_eq_true_eq, ge_iff_le, gt_iff_lt, tI_cnd, cmpI]
theorem s68 (l : List Int) (hl : l.length ≤ 1000) : Runs C 68 [.sl 1 (l.map encI)] [tI ((l.find? (· ≠ 0)).getD 0)] := by
  refine Runs.of (fun n => e68 n _) ?_
  refine loop_overQ (fun r => [tI r]) l (fun i _ => (([.t (tI i)], []) : List AV × Heap)) (fun i _ x => if x ≠ 0 then .done x else .next ()) (fun _ => 0) (fun _ _ => True) () rfl trivial ?_
    (fun i s x hx hI => Ev.of fun n again => ?_) (fun _ _ _ _ _ _ _ => trivial) (fun s hI => Ev.of fun n again => ?_)
  · have : ∀ (i : Nat) (l : List Int), runL (fun _ (_ : Unit) (x : Int) => if x ≠ 0 then .done x else .next ()) (fun _ => 0) i l () = (l.find? (· ≠ 0)).getD 0 := by
      intro i l
      induction l generalizing i with
      | nil => rfl
      | cons x l ih =>
        by_cases hx : x = 0
        · simp only [runL, hx, ne_eq, not_true_eq_false, if_false, List.find?_cons, decide_false]; exact ih _
        · simp [runL, hx]
    exact this 0 l
  · have hi := lt_of_some hx
    simp only [vI_mk, vB_mk, vS_mk, vL_mk, sVer_mk, sOff_mk, sLen_mk, oVer_mk, oEs_mk, cI_mk, cB_mk, cS_mk, cL_mk, cVer_mk, cOff_mk, cLen_mk, gI_zero, gI_succ, gB_zero, gB_succ, gS_zero, gS_succ, gL_zero, gL_succ, okI_zero, okI_succ, okB_zero, okB_succ, okS_zero, okS_succ, okL_zero, okL_succ, isIntT_int, isBoolT_bool, isStrT_str, isSlT_sl, intOf_int, boolOf_bool, strOf_str, slOf_sl, treeOf_t, srVer_sref, srOff_sref, srLen_sref, ver_row, esOf_row, cellOf_box, List.getD_cons_zero, List.getD_cons_succ, decide_true, decide_false, cnd_true, cnd_false, true_and, and_true, false_and, and_false, Option.bind_some, Option.bind_none, List.length_cons, List.length_nil, List.length_map, List.getElem?_map, Option.map_some, Option.map_none, Int.toNat_natCast, reduceCtorEq, eq_self, if_true, if_false, Nat.zero_add, Nat.reduceAdd, Nat.reduceEqDiff, Int.natCast_nonneg, List.drop_zero, or_true, true_or, or_false, false_or, Bool.not_true, Bool.not_false, Bool.false_eq_true, decide_eq_true_eq, ge_iff_le, gt_iff_lt, hx, encI, w64_succ (show i < 4611686018427387904 by omega), (show (i : Int) < l.length by omega)]
    by_cases h : x = 0 <;> simp [h, cnd_eq, Rd.go_done, Rd.go_next]
  · simp only [vI_mk, vB_mk, vS_mk, vL_mk, sVer_mk, sOff_mk, sLen_mk, oVer_mk, oEs_mk, cI_mk, cB_mk, cS_mk, cL_mk, cVer_mk, cOff_mk, cLen_mk, gI_zero, gI_succ, gB_zero, gB_succ, gS_zero, gS_succ, gL_zero, gL_succ, okI_zero, okI_succ, okB_zero, okB_succ, okS_zero, okS_succ, okL_zero, okL_succ, isIntT_int, isBoolT_bool, isStrT_str, isSlT_sl, intOf_int, boolOf_bool, strOf_str, slOf_sl, treeOf_t, srVer_sref, srOff_sref, srLen_sref, ver_row, esOf_row, cellOf_box, List.getD_cons_zero, List.getD_cons_succ, decide_true, decide_false, cnd_true, cnd_false, true_and, and_true, false_and, and_false, Option.bind_some, Option.bind_none, List.length_cons, List.length_nil, List.length_map, List.getElem?_map, Option.map_some, Option.map_none, Int.toNat_natCast, reduceCtorEq, eq_self, if_true, if_false, Nat.zero_add, Nat.reduceAdd, Nat.reduceEqDiff, Int.natCast_nonneg, List.drop_zero, or_true, true_or, or_false, false_or, Bool.not_true, Bool.not_false, Bool.false_eq_true, decide_eq_true_eq, ge_iff_le, gt_iff_lt, Int.lt_irrefl]
def cmpB (a b : Booking) : Int := if cmpI a.contact b.contact ≠ 0 then cmpI a.contact b.contact else cmpI a.beg b.beg
theorem s47 (a b : Booking) : Runs C 47 (a.enc ++ b.enc) [tI (cmpB a b)] := by
  refine Runs.of (fun n => e47 n _ _ _ _ _ _ _ _) ?_
  refine ((s69 a.contact b.contact).and ((s69 a.beg b.beg).and (s68 [cmpI a.contact b.contact, cmpI a.beg b.beg] (by simp)))).mono fun n ⟨h1, h2, h3⟩ => ?_
  simp only [List.map_cons, List.map_nil, encI] at h3
  simp only [h1, h2, h3, vI_mk, vB_mk, vS_mk, vL_mk, sVer_mk, sOff_mk, sLen_mk, oVer_mk, oEs_mk, cI_mk, cB_mk, cS_mk, cL_mk, cVer_mk, cOff_mk, cLen_mk, gI_zero, gI_succ, gB_zero, gB_succ, gS_zero, gS_succ, gL_zero, gL_succ, okI_zero, okI_succ, okB_zero, okB_succ, okS_zero, okS_succ, okL_zero, okL_succ, isIntT_int, isBoolT_bool, isStrT_str, isSlT_sl, intOf_int, boolOf_bool, strOf_str, slOf_sl, treeOf_t, srVer_sref, srOff_sref, srLen_sref, ver_row, esOf_row, cellOf_box, List.getD_cons_zero, List.getD_cons_succ, decide_true, decide_false, cnd_true, cnd_false, true_and, and_true, false_and, and_false, Option.bind_some, Option.bind_none, List.length_cons, List.length_nil, List.length_map, List.getElem?_map, Option.map_some, Option.map_none, Int.toNat_natCast, reduceCtorEq, eq_self, if_true, if_false, Nat.zero_add, Nat.reduceAdd, Nat.reduceEqDiff, Int.natCast_nonneg, List.drop_zero, or_true, true_or, or_false, false_or, Bool.not_true, Bool.not_false, Bool.false_eq_true, decide_eq_true_eq, ge_iff_le, gt_iff_lt]
  congr 3
  simp only [cmpB, List.find?_cons, List.find?_nil]
  grind
end Ab
