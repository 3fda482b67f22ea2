/- Agenda: Merge, and the laws Merge and Join. -/
import Derived.Test.YtglkblaagdoagaaAgF
import Derived.Test.YtglkblaagdoagaaAgY3
set_option linter.unusedVariables false
set_option linter.unusedSimpArgs false
namespace Ab
open Go

theorem cmpE_lt {x y : Event} (h : less x y = true) : cmpE x y = -1 := by
  unfold less at h
  unfold cmpE cmpI
  simp only [decide_eq_true_eq] at h
  grind
theorem cmpE_gt {x y : Event} (h : less y x = true) : cmpE x y = 1 := by
  unfold less at h
  unfold cmpE cmpI
  simp only [decide_eq_true_eq] at h
  grind
theorem cmpE_eq (x : Event) : cmpE x x = 0 := (cmp_zero x x).2 rfl

structure MS where
  v : Nat
  out : List Event
  a : List Event
  b : List Event
def msStep (s : MS) : Rd MS (List Event) :=
  match s.a, s.b with
  | [], [] => .done s.out
  | x :: a, [] => .next ⟨s.v + 1, s.out ++ [x], a, []⟩
  | [], y :: b => .next ⟨s.v + 1, s.out ++ [y], [], b⟩
  | x :: a, y :: b => if less x y = true then .next ⟨s.v + 1, s.out ++ [x], a, y :: b⟩ else if x = y then .next ⟨s.v + 1, s.out ++ [x], a, b⟩ else .next ⟨s.v + 1, s.out ++ [y], x :: a, b⟩
def mrgC (a b : List Event) : Int := if agCheck a ≠ 0 ∨ agCheck b ≠ 0 then 1 else if (mergeL a b).length > 1000 then 4 else 0
def mrgL (a b : List Event) : List Event := if mrgC a b = 0 then mergeL a b else []
def mrgOut (r : List Event) : List Tree := if r.length > 1000 then [.sl 3 [], tI 4] else [.sl 3 (r.map Event.enc), tI 0]
theorem s30 (a b : List Event) : Runs C 30 [.sl 3 (a.map Event.enc), .sl 3 (b.map Event.enc)] [.sl 3 ((mrgL a b).map Event.enc), tI (mrgC a b)] := by
  refine Runs.of (fun n => e30 n _ _) ?_
  by_cases ha : agCheck a = 0
  · by_cases hb : agCheck b = 0
    · have la := check_len ha
      have lb := check_len hb
      have hr : [Tree.sl 3 ((mrgL a b).map Event.enc), tI (mrgC a b)] = mrgOut (mergeL a b) := by
        unfold mrgL mrgC mrgOut
        by_cases h : (mergeL a b).length > 1000
        · simp [ha, hb, h]
        · simp [ha, hb, h]
      rw [hr]
      refine Ev.rw (T' := ?TT) ((s10 a).and (s10 b)) (fun n h => ?g1) ?g2
      case g1 =>
        simp only [h.1, h.2, vI_mk, vB_mk, vS_mk, vL_mk, sVer_mk, sOff_mk, sLen_mk, oVer_mk, oEs_mk, cI_mk, cB_mk, cS_mk, cL_mk, cVer_mk, cOff_mk, cLen_mk, gI_zero, gI_succ, gB_zero, gB_succ, gS_zero, gS_succ, gL_zero, gL_succ, okI_zero, okI_succ, okB_zero, okB_succ, okS_zero, okS_succ, okL_zero, okL_succ, isIntT_int, isBoolT_bool, isStrT_str, isSlT_sl, intOf_int, boolOf_bool, strOf_str, slOf_sl, treeOf_t, srVer_sref, srOff_sref, srLen_sref, ver_row, esOf_row, cellOf_box, List.getD_cons_zero, List.getD_cons_succ, decide_true, decide_false, cnd_true, cnd_false, true_and, and_true, false_and, and_false, Option.bind_some, Option.bind_none, List.length_cons, List.length_nil, List.length_map, List.getElem?_map, Option.map_some, Option.map_none, Int.toNat_natCast, reduceCtorEq, eq_self, if_true, if_false, Nat.zero_add, Nat.reduceAdd, Nat.reduceEqDiff, Int.natCast_nonneg, List.drop_zero, or_true, true_or, or_false, false_or, Bool.not_true, Bool.not_false, Bool.false_eq_true, decide_eq_true_eq, ge_iff_le, gt_iff_lt, ha, hb, bne_self_eq_false]
        rfl
      case g2 =>
        refine while_overQ mrgOut (fun (s : MS) => (([], [.row false s.v 3 (s.out.map Event.enc), .box [.sref 0 s.v 0 s.out.length], .box [.t (.sl 3 (s.a.map Event.enc))], .box [.t (.sl 3 (s.b.map Event.enc))], .box []]) : List AV × Heap)) msStep (fun s => s.out.length + s.a.length + s.b.length ≤ 2000) (fun s => s.a.length + s.b.length) (fun s => s.out ++ mergeL s.a s.b) ⟨0, [], a, b⟩ rfl (by simp; omega) (by simp)
          (fun s hI => ?_) (fun s s' hI hs => ?_) (fun s hI => ?_)
        · obtain ⟨v, out, a, b⟩ := s
          simp only at hI
          have hout : out.length + 1 ≤ 1073741824 := by omega
          have e1 : ∀ l : List Event, List.take l.length (List.map Event.enc l) = List.map Event.enc l := fun l => List.take_of_length_le (by simp)
          cases a with
          | nil =>
            cases b with
            | nil =>
              refine Ev.of fun n again => ?_
              simp only [vI_mk, vB_mk, vS_mk, vL_mk, sVer_mk, sOff_mk, sLen_mk, oVer_mk, oEs_mk, cI_mk, cB_mk, cS_mk, cL_mk, cVer_mk, cOff_mk, cLen_mk, gI_zero, gI_succ, gB_zero, gB_succ, gS_zero, gS_succ, gL_zero, gL_succ, okI_zero, okI_succ, okB_zero, okB_succ, okS_zero, okS_succ, okL_zero, okL_succ, isIntT_int, isBoolT_bool, isStrT_str, isSlT_sl, intOf_int, boolOf_bool, strOf_str, slOf_sl, treeOf_t, srVer_sref, srOff_sref, srLen_sref, ver_row, esOf_row, cellOf_box, List.getD_cons_zero, List.getD_cons_succ, decide_true, decide_false, cnd_true, cnd_false, true_and, and_true, false_and, and_false, Option.bind_some, Option.bind_none, List.length_cons, List.length_nil, List.length_map, List.getElem?_map, Option.map_some, Option.map_none, Int.toNat_natCast, reduceCtorEq, eq_self, if_true, if_false, Nat.zero_add, Nat.reduceAdd, Nat.reduceEqDiff, Int.natCast_nonneg, List.drop_zero, or_true, true_or, or_false, false_or, Bool.not_true, Bool.not_false, Bool.false_eq_true, decide_eq_true_eq, ge_iff_le, gt_iff_lt, msStep, Rd.go_done, List.map_nil, Int.lt_irrefl, (show ¬ (0 : Int) < ((0 : Nat) : Int) by decide), mrgOut]
              by_cases h : out.length > 1000
              · rw [cnd_pos (by omega), if_pos h]
              · rw [cnd_neg (by omega), if_neg h, e1]
            | cons y b =>
              refine Ev.of fun n again => ?_
              simp only [List.length_cons] at hI
              simp only [vI_mk, vB_mk, vS_mk, vL_mk, sVer_mk, sOff_mk, sLen_mk, oVer_mk, oEs_mk, cI_mk, cB_mk, cS_mk, cL_mk, cVer_mk, cOff_mk, cLen_mk, gI_zero, gI_succ, gB_zero, gB_succ, gS_zero, gS_succ, gL_zero, gL_succ, okI_zero, okI_succ, okB_zero, okB_succ, okS_zero, okS_succ, okL_zero, okL_succ, isIntT_int, isBoolT_bool, isStrT_str, isSlT_sl, intOf_int, boolOf_bool, strOf_str, slOf_sl, treeOf_t, srVer_sref, srOff_sref, srLen_sref, ver_row, esOf_row, cellOf_box, List.getD_cons_zero, List.getD_cons_succ, decide_true, decide_false, cnd_true, cnd_false, true_and, and_true, false_and, and_false, Option.bind_some, Option.bind_none, List.length_cons, List.length_nil, List.length_map, List.getElem?_map, Option.map_some, Option.map_none, Int.toNat_natCast, reduceCtorEq, eq_self, if_true, if_false, Nat.zero_add, Nat.reduceAdd, Nat.reduceEqDiff, Int.natCast_nonneg, List.drop_zero, or_true, true_or, or_false, false_or, Bool.not_true, Bool.not_false, Bool.false_eq_true, decide_eq_true_eq, ge_iff_le, gt_iff_lt, msStep, Rd.go_next, List.map_nil, List.map_cons, List.length_append, (show ¬ (0 : Int) < ((0 : Nat) : Int) by decide), (show (0 : Int) < ((b.length + 1 : Nat) : Int) by omega), (show ((((b.length + 1 : Nat) : Int) == 0) = false) by simp; omega), (show ((((0 : Nat) : Int) == 0) = true) by decide), List.getElem?_cons_zero, Event.enc, hout, (show (0 : Int) ≤ 1 by decide), (show (1 : Int) ≤ ((b.length + 1 : Nat) : Int) by omega), List.take_succ_cons, List.drop_succ_cons, e1, List.map_append]
          | cons x a =>
            simp only [List.length_cons] at hI
            cases b with
            | nil =>
              refine Ev.of fun n again => ?_
              simp only [vI_mk, vB_mk, vS_mk, vL_mk, sVer_mk, sOff_mk, sLen_mk, oVer_mk, oEs_mk, cI_mk, cB_mk, cS_mk, cL_mk, cVer_mk, cOff_mk, cLen_mk, gI_zero, gI_succ, gB_zero, gB_succ, gS_zero, gS_succ, gL_zero, gL_succ, okI_zero, okI_succ, okB_zero, okB_succ, okS_zero, okS_succ, okL_zero, okL_succ, isIntT_int, isBoolT_bool, isStrT_str, isSlT_sl, intOf_int, boolOf_bool, strOf_str, slOf_sl, treeOf_t, srVer_sref, srOff_sref, srLen_sref, ver_row, esOf_row, cellOf_box, List.getD_cons_zero, List.getD_cons_succ, decide_true, decide_false, cnd_true, cnd_false, true_and, and_true, false_and, and_false, Option.bind_some, Option.bind_none, List.length_cons, List.length_nil, List.length_map, List.getElem?_map, Option.map_some, Option.map_none, Int.toNat_natCast, reduceCtorEq, eq_self, if_true, if_false, Nat.zero_add, Nat.reduceAdd, Nat.reduceEqDiff, Int.natCast_nonneg, List.drop_zero, or_true, true_or, or_false, false_or, Bool.not_true, Bool.not_false, Bool.false_eq_true, decide_eq_true_eq, ge_iff_le, gt_iff_lt, msStep, Rd.go_next, List.map_nil, List.map_cons, List.length_append, (show ¬ (0 : Int) < ((0 : Nat) : Int) by decide), (show (0 : Int) < ((a.length + 1 : Nat) : Int) by omega), (show ((((a.length + 1 : Nat) : Int) == 0) = false) by simp; omega), (show ((((0 : Nat) : Int) == 0) = true) by decide), List.getElem?_cons_zero, Event.enc, hout, (show (0 : Int) ≤ 1 by decide), (show (1 : Int) ≤ ((a.length + 1 : Nat) : Int) by omega), List.take_succ_cons, List.drop_succ_cons, e1, List.map_append]
            | cons y b =>
              simp only [List.length_cons] at hI
              have q := s36 x y
              rcases lt_tri x y with h | h | h
              · rw [cmpE_lt h] at q
                refine q.mono fun n q again => ?_
                simp only [Event.enc, List.cons_append, List.nil_append] at q
                simp only [vI_mk, vB_mk, vS_mk, vL_mk, sVer_mk, sOff_mk, sLen_mk, oVer_mk, oEs_mk, cI_mk, cB_mk, cS_mk, cL_mk, cVer_mk, cOff_mk, cLen_mk, gI_zero, gI_succ, gB_zero, gB_succ, gS_zero, gS_succ, gL_zero, gL_succ, okI_zero, okI_succ, okB_zero, okB_succ, okS_zero, okS_succ, okL_zero, okL_succ, isIntT_int, isBoolT_bool, isStrT_str, isSlT_sl, intOf_int, boolOf_bool, strOf_str, slOf_sl, treeOf_t, srVer_sref, srOff_sref, srLen_sref, ver_row, esOf_row, cellOf_box, List.getD_cons_zero, List.getD_cons_succ, decide_true, decide_false, cnd_true, cnd_false, true_and, and_true, false_and, and_false, Option.bind_some, Option.bind_none, List.length_cons, List.length_nil, List.length_map, List.getElem?_map, Option.map_some, Option.map_none, Int.toNat_natCast, reduceCtorEq, eq_self, if_true, if_false, Nat.zero_add, Nat.reduceAdd, Nat.reduceEqDiff, Int.natCast_nonneg, List.drop_zero, or_true, true_or, or_false, false_or, Bool.not_true, Bool.not_false, Bool.false_eq_true, decide_eq_true_eq, ge_iff_le, gt_iff_lt, q, msStep, h, Rd.go_next, List.map_nil, List.map_cons, List.length_append, (show (0 : Int) < ((a.length + 1 : Nat) : Int) by omega), (show ((((a.length + 1 : Nat) : Int) == 0) = false) by simp; omega), (show ((((b.length + 1 : Nat) : Int) == 0) = false) by simp; omega), List.getElem?_cons_zero, Event.enc, hout, (show (0 : Int) ≤ 1 by decide), (show (1 : Int) ≤ ((a.length + 1 : Nat) : Int) by omega), (show (1 : Int) ≤ ((b.length + 1 : Nat) : Int) by omega), List.take_succ_cons, List.drop_succ_cons, e1, List.map_append, (show (-1 : Int) ≤ 0 by decide), (show ((-1 : Int) == 0) = false by decide), (show ¬ (0 : Int) < -1 by decide)]
              · subst h
                rw [cmpE_eq] at q
                refine q.mono fun n q again => ?_
                simp only [Event.enc, List.cons_append, List.nil_append] at q
                simp only [vI_mk, vB_mk, vS_mk, vL_mk, sVer_mk, sOff_mk, sLen_mk, oVer_mk, oEs_mk, cI_mk, cB_mk, cS_mk, cL_mk, cVer_mk, cOff_mk, cLen_mk, gI_zero, gI_succ, gB_zero, gB_succ, gS_zero, gS_succ, gL_zero, gL_succ, okI_zero, okI_succ, okB_zero, okB_succ, okS_zero, okS_succ, okL_zero, okL_succ, isIntT_int, isBoolT_bool, isStrT_str, isSlT_sl, intOf_int, boolOf_bool, strOf_str, slOf_sl, treeOf_t, srVer_sref, srOff_sref, srLen_sref, ver_row, esOf_row, cellOf_box, List.getD_cons_zero, List.getD_cons_succ, decide_true, decide_false, cnd_true, cnd_false, true_and, and_true, false_and, and_false, Option.bind_some, Option.bind_none, List.length_cons, List.length_nil, List.length_map, List.getElem?_map, Option.map_some, Option.map_none, Int.toNat_natCast, reduceCtorEq, eq_self, if_true, if_false, Nat.zero_add, Nat.reduceAdd, Nat.reduceEqDiff, Int.natCast_nonneg, List.drop_zero, or_true, true_or, or_false, false_or, Bool.not_true, Bool.not_false, Bool.false_eq_true, decide_eq_true_eq, ge_iff_le, gt_iff_lt, q, msStep, lt_irr, Rd.go_next, List.map_nil, List.map_cons, List.length_append, (show (0 : Int) < ((a.length + 1 : Nat) : Int) by omega), (show ((((a.length + 1 : Nat) : Int) == 0) = false) by simp; omega), (show ((((b.length + 1 : Nat) : Int) == 0) = false) by simp; omega), List.getElem?_cons_zero, Event.enc, hout, (show (0 : Int) ≤ 1 by decide), (show (1 : Int) ≤ ((a.length + 1 : Nat) : Int) by omega), (show (1 : Int) ≤ ((b.length + 1 : Nat) : Int) by omega), List.take_succ_cons, List.drop_succ_cons, e1, List.map_append, Int.le_refl, (show ((0 : Int) == 0) = true by decide), Int.lt_irrefl]
              · have hne : ¬ x = y := fun he => by rw [he, lt_irr] at h; cases h
                rw [cmpE_gt h] at q
                refine q.mono fun n q again => ?_
                simp only [Event.enc, List.cons_append, List.nil_append] at q
                simp only [vI_mk, vB_mk, vS_mk, vL_mk, sVer_mk, sOff_mk, sLen_mk, oVer_mk, oEs_mk, cI_mk, cB_mk, cS_mk, cL_mk, cVer_mk, cOff_mk, cLen_mk, gI_zero, gI_succ, gB_zero, gB_succ, gS_zero, gS_succ, gL_zero, gL_succ, okI_zero, okI_succ, okB_zero, okB_succ, okS_zero, okS_succ, okL_zero, okL_succ, isIntT_int, isBoolT_bool, isStrT_str, isSlT_sl, intOf_int, boolOf_bool, strOf_str, slOf_sl, treeOf_t, srVer_sref, srOff_sref, srLen_sref, ver_row, esOf_row, cellOf_box, List.getD_cons_zero, List.getD_cons_succ, decide_true, decide_false, cnd_true, cnd_false, true_and, and_true, false_and, and_false, Option.bind_some, Option.bind_none, List.length_cons, List.length_nil, List.length_map, List.getElem?_map, Option.map_some, Option.map_none, Int.toNat_natCast, reduceCtorEq, eq_self, if_true, if_false, Nat.zero_add, Nat.reduceAdd, Nat.reduceEqDiff, Int.natCast_nonneg, List.drop_zero, or_true, true_or, or_false, false_or, Bool.not_true, Bool.not_false, Bool.false_eq_true, decide_eq_true_eq, ge_iff_le, gt_iff_lt, q, msStep, lt_asym h, hne, Rd.go_next, List.map_nil, List.map_cons, List.length_append, (show (0 : Int) < ((a.length + 1 : Nat) : Int) by omega), (show ((((a.length + 1 : Nat) : Int) == 0) = false) by simp; omega), (show ((((b.length + 1 : Nat) : Int) == 0) = false) by simp; omega), List.getElem?_cons_zero, Event.enc, hout, (show (0 : Int) ≤ 1 by decide), (show (1 : Int) ≤ ((a.length + 1 : Nat) : Int) by omega), (show (1 : Int) ≤ ((b.length + 1 : Nat) : Int) by omega), List.take_succ_cons, List.drop_succ_cons, e1, List.map_append, (show ¬ (1 : Int) ≤ 0 by decide), (show ((1 : Int) == 0) = false by decide), (show (0 : Int) < 1 by decide)]
        · obtain ⟨v, out, a, b⟩ := s
          unfold msStep at hs
          simp only at hs hI
          split at hs
          · cases hs
          · cases hs; simp at hI ⊢; omega
          · cases hs; simp at hI ⊢; omega
          · split at hs
            · cases hs; simp at hI ⊢; omega
            · split at hs
              · cases hs; simp at hI ⊢; omega
              · cases hs; simp at hI ⊢; omega
        · obtain ⟨v, out, a, b⟩ := s
          unfold msStep
          simp only
          split
          · simp [Rd.fin, mergeL]
          · simp [Rd.fin, mergeL]
            rename_i x a
            cases a <;> first | rfl | simp [mergeL]
          · simp [Rd.fin, mergeL]
          · rename_i x a y b
            rw [mergeL]
            split
            · simp [Rd.fin]
            · split
              · simp [Rd.fin]
              · simp [Rd.fin]
    · refine ((s10 a).and (s10 b)).mono fun n h => ?_
      simp only [h.1, h.2, vI_mk, vB_mk, vS_mk, vL_mk, sVer_mk, sOff_mk, sLen_mk, oVer_mk, oEs_mk, cI_mk, cB_mk, cS_mk, cL_mk, cVer_mk, cOff_mk, cLen_mk, gI_zero, gI_succ, gB_zero, gB_succ, gS_zero, gS_succ, gL_zero, gL_succ, okI_zero, okI_succ, okB_zero, okB_succ, okS_zero, okS_succ, okL_zero, okL_succ, isIntT_int, isBoolT_bool, isStrT_str, isSlT_sl, intOf_int, boolOf_bool, strOf_str, slOf_sl, treeOf_t, srVer_sref, srOff_sref, srLen_sref, ver_row, esOf_row, cellOf_box, List.getD_cons_zero, List.getD_cons_succ, decide_true, decide_false, cnd_true, cnd_false, true_and, and_true, false_and, and_false, Option.bind_some, Option.bind_none, List.length_cons, List.length_nil, List.length_map, List.getElem?_map, Option.map_some, Option.map_none, Int.toNat_natCast, reduceCtorEq, eq_self, if_true, if_false, Nat.zero_add, Nat.reduceAdd, Nat.reduceEqDiff, Int.natCast_nonneg, List.drop_zero, or_true, true_or, or_false, false_or, Bool.not_true, Bool.not_false, Bool.false_eq_true, decide_eq_true_eq, ge_iff_le, gt_iff_lt, ha, bne_self_eq_false]
      rw [cnd_pos (by simp [hb])]
      simp [mrgL, mrgC, ha, hb]
  · refine (s10 a).mono fun n h => ?_
    simp only [h, vI_mk, vB_mk, vS_mk, vL_mk, sVer_mk, sOff_mk, sLen_mk, oVer_mk, oEs_mk, cI_mk, cB_mk, cS_mk, cL_mk, cVer_mk, cOff_mk, cLen_mk, gI_zero, gI_succ, gB_zero, gB_succ, gS_zero, gS_succ, gL_zero, gL_succ, okI_zero, okI_succ, okB_zero, okB_succ, okS_zero, okS_succ, okL_zero, okL_succ, isIntT_int, isBoolT_bool, isStrT_str, isSlT_sl, intOf_int, boolOf_bool, strOf_str, slOf_sl, treeOf_t, srVer_sref, srOff_sref, srLen_sref, ver_row, esOf_row, cellOf_box, List.getD_cons_zero, List.getD_cons_succ, decide_true, decide_false, cnd_true, cnd_false, true_and, and_true, false_and, and_false, Option.bind_some, Option.bind_none, List.length_cons, List.length_nil, List.length_map, List.getElem?_map, Option.map_some, Option.map_none, Int.toNat_natCast, reduceCtorEq, eq_self, if_true, if_false, Nat.zero_add, Nat.reduceAdd, Nat.reduceEqDiff, Int.natCast_nonneg, List.drop_zero, or_true, true_or, or_false, false_or, Bool.not_true, Bool.not_false, Bool.false_eq_true, decide_eq_true_eq, ge_iff_le, gt_iff_lt]
    rw [cnd_pos (by simp [ha])]
    simp [mrgL, mrgC, ha]
theorem s31 (a b : List Event) : Runs C 31 [.sl 3 (a.map Event.enc), .sl 3 (b.map Event.enc)] [.sl 3 ((mrgL a b).map Event.enc), tI (mrgC a b)] := by
  refine Runs.of (fun n => e31 n _ _) ?_
  by_cases ha : agCheck a = 0
  · by_cases hb : agCheck b = 0
    · have la := check_len ha
      have lb := check_len hb
      have ga := (ag_srt a).1 ha
      have gb := (ag_srt b).1 hb
      have hr : [Tree.sl 3 ((mrgL a b).map Event.enc), tI (mrgC a b)] = mrgOut (mergeL a b) := by
        unfold mrgL mrgC mrgOut
        by_cases h : (mergeL a b).length > 1000
        · simp [ha, hb, h]
        · simp [ha, hb, h]
      rw [hr]
      refine Ev.rw (T' := ?TT) ((s25 a).and (s25 b)) (fun n h => ?g1) ?g2
      case g1 =>
        simp only [h.1, h.2, vI_mk, vB_mk, vS_mk, vL_mk, sVer_mk, sOff_mk, sLen_mk, oVer_mk, oEs_mk, cI_mk, cB_mk, cS_mk, cL_mk, cVer_mk, cOff_mk, cLen_mk, gI_zero, gI_succ, gB_zero, gB_succ, gS_zero, gS_succ, gL_zero, gL_succ, okI_zero, okI_succ, okB_zero, okB_succ, okS_zero, okS_succ, okL_zero, okL_succ, isIntT_int, isBoolT_bool, isStrT_str, isSlT_sl, intOf_int, boolOf_bool, strOf_str, slOf_sl, treeOf_t, srVer_sref, srOff_sref, srLen_sref, ver_row, esOf_row, cellOf_box, List.getD_cons_zero, List.getD_cons_succ, decide_true, decide_false, cnd_true, cnd_false, true_and, and_true, false_and, and_false, Option.bind_some, Option.bind_none, List.length_cons, List.length_nil, List.length_map, List.getElem?_map, Option.map_some, Option.map_none, Int.toNat_natCast, reduceCtorEq, eq_self, if_true, if_false, Nat.zero_add, Nat.reduceAdd, Nat.reduceEqDiff, Int.natCast_nonneg, List.drop_zero, or_true, true_or, or_false, false_or, Bool.not_true, Bool.not_false, Bool.false_eq_true, decide_eq_true_eq, ge_iff_le, gt_iff_lt, ha, hb, bne_self_eq_false]
        rfl
      case g2 =>
        refine loop_overQ mrgOut b (fun i (s : List Event) => (([.t (.sl 3 (s.map Event.enc)), .t (tI i)], []) : List AV × Heap)) (fun _ s x => .next (refIns s x)) id (fun i s => s.length ≤ 1000 + i) a rfl (by omega) (by rw [runL_fold, id, merge_ref ga.2.2 gb.2.2])
          (fun i s x hx hI => ?_) (fun i s x s' hx hI hs => ?_) (fun s hI => Ev.of fun n again => ?_)
        · have hi := lt_of_some hx
          refine (s45 s x (by omega)).mono fun n h again => ?_
          simp only [vI_mk, vB_mk, vS_mk, vL_mk, sVer_mk, sOff_mk, sLen_mk, oVer_mk, oEs_mk, cI_mk, cB_mk, cS_mk, cL_mk, cVer_mk, cOff_mk, cLen_mk, gI_zero, gI_succ, gB_zero, gB_succ, gS_zero, gS_succ, gL_zero, gL_succ, okI_zero, okI_succ, okB_zero, okB_succ, okS_zero, okS_succ, okL_zero, okL_succ, isIntT_int, isBoolT_bool, isStrT_str, isSlT_sl, intOf_int, boolOf_bool, strOf_str, slOf_sl, treeOf_t, srVer_sref, srOff_sref, srLen_sref, ver_row, esOf_row, cellOf_box, List.getD_cons_zero, List.getD_cons_succ, decide_true, decide_false, cnd_true, cnd_false, true_and, and_true, false_and, and_false, Option.bind_some, Option.bind_none, List.length_cons, List.length_nil, List.length_map, List.getElem?_map, Option.map_some, Option.map_none, Int.toNat_natCast, reduceCtorEq, eq_self, if_true, if_false, Nat.zero_add, Nat.reduceAdd, Nat.reduceEqDiff, Int.natCast_nonneg, List.drop_zero, or_true, true_or, or_false, false_or, Bool.not_true, Bool.not_false, Bool.false_eq_true, decide_eq_true_eq, ge_iff_le, gt_iff_lt, hx, Event.enc, h, (show (i : Int) < b.length by omega), w64_succ (show i < 4611686018427387904 by omega), Rd.go_next]
        · cases hs
          have := refIns_len s x
          omega
        · simp only [vI_mk, vB_mk, vS_mk, vL_mk, sVer_mk, sOff_mk, sLen_mk, oVer_mk, oEs_mk, cI_mk, cB_mk, cS_mk, cL_mk, cVer_mk, cOff_mk, cLen_mk, gI_zero, gI_succ, gB_zero, gB_succ, gS_zero, gS_succ, gL_zero, gL_succ, okI_zero, okI_succ, okB_zero, okB_succ, okS_zero, okS_succ, okL_zero, okL_succ, isIntT_int, isBoolT_bool, isStrT_str, isSlT_sl, intOf_int, boolOf_bool, strOf_str, slOf_sl, treeOf_t, srVer_sref, srOff_sref, srLen_sref, ver_row, esOf_row, cellOf_box, List.getD_cons_zero, List.getD_cons_succ, decide_true, decide_false, cnd_true, cnd_false, true_and, and_true, false_and, and_false, Option.bind_some, Option.bind_none, List.length_cons, List.length_nil, List.length_map, List.getElem?_map, Option.map_some, Option.map_none, Int.toNat_natCast, reduceCtorEq, eq_self, if_true, if_false, Nat.zero_add, Nat.reduceAdd, Nat.reduceEqDiff, Int.natCast_nonneg, List.drop_zero, or_true, true_or, or_false, false_or, Bool.not_true, Bool.not_false, Bool.false_eq_true, decide_eq_true_eq, ge_iff_le, gt_iff_lt, Int.lt_irrefl, mrgOut, id]
          by_cases h : s.length > 1000
          · rw [cnd_pos (by omega), if_pos h]
          · rw [cnd_neg (by omega), if_neg h]
    · refine ((s25 a).and (s25 b)).mono fun n h => ?_
      simp only [h.1, h.2, vI_mk, vB_mk, vS_mk, vL_mk, sVer_mk, sOff_mk, sLen_mk, oVer_mk, oEs_mk, cI_mk, cB_mk, cS_mk, cL_mk, cVer_mk, cOff_mk, cLen_mk, gI_zero, gI_succ, gB_zero, gB_succ, gS_zero, gS_succ, gL_zero, gL_succ, okI_zero, okI_succ, okB_zero, okB_succ, okS_zero, okS_succ, okL_zero, okL_succ, isIntT_int, isBoolT_bool, isStrT_str, isSlT_sl, intOf_int, boolOf_bool, strOf_str, slOf_sl, treeOf_t, srVer_sref, srOff_sref, srLen_sref, ver_row, esOf_row, cellOf_box, List.getD_cons_zero, List.getD_cons_succ, decide_true, decide_false, cnd_true, cnd_false, true_and, and_true, false_and, and_false, Option.bind_some, Option.bind_none, List.length_cons, List.length_nil, List.length_map, List.getElem?_map, Option.map_some, Option.map_none, Int.toNat_natCast, reduceCtorEq, eq_self, if_true, if_false, Nat.zero_add, Nat.reduceAdd, Nat.reduceEqDiff, Int.natCast_nonneg, List.drop_zero, or_true, true_or, or_false, false_or, Bool.not_true, Bool.not_false, Bool.false_eq_true, decide_eq_true_eq, ge_iff_le, gt_iff_lt, ha, bne_self_eq_false]
      rw [cnd_pos (by simp [hb])]
      simp [mrgL, mrgC, ha, hb]
  · refine (s25 a).mono fun n h => ?_
    simp only [h, vI_mk, vB_mk, vS_mk, vL_mk, sVer_mk, sOff_mk, sLen_mk, oVer_mk, oEs_mk, cI_mk, cB_mk, cS_mk, cL_mk, cVer_mk, cOff_mk, cLen_mk, gI_zero, gI_succ, gB_zero, gB_succ, gS_zero, gS_succ, gL_zero, gL_succ, okI_zero, okI_succ, okB_zero, okB_succ, okS_zero, okS_succ, okL_zero, okL_succ, isIntT_int, isBoolT_bool, isStrT_str, isSlT_sl, intOf_int, boolOf_bool, strOf_str, slOf_sl, treeOf_t, srVer_sref, srOff_sref, srLen_sref, ver_row, esOf_row, cellOf_box, List.getD_cons_zero, List.getD_cons_succ, decide_true, decide_false, cnd_true, cnd_false, true_and, and_true, false_and, and_false, Option.bind_some, Option.bind_none, List.length_cons, List.length_nil, List.length_map, List.getElem?_map, Option.map_some, Option.map_none, Int.toNat_natCast, reduceCtorEq, eq_self, if_true, if_false, Nat.zero_add, Nat.reduceAdd, Nat.reduceEqDiff, Int.natCast_nonneg, List.drop_zero, or_true, true_or, or_false, false_or, Bool.not_true, Bool.not_false, Bool.false_eq_true, decide_eq_true_eq, ge_iff_le, gt_iff_lt]
    rw [cnd_pos (by simp [ha])]
    simp [mrgL, mrgC, ha]
theorem s15b (a b : List Event) : Runs C 15 [.sl 1 [[.sl 3 (a.map Event.enc)], [.sl 3 (b.map Event.enc)]]] [.bool (bigE a || bigE b)] := by
  refine Runs.of (fun n => e15 n _) ?_
  refine loop_overQ (fun r => [Tree.bool r]) [a, b] (fun i _ => (([.t (tI i)], []) : List AV × Heap)) (fun i _ x => if bigE x = true then .done true else .next ()) (fun _ => false) (fun _ _ => True) () rfl trivial (r := bigE a || bigE b) (by cases h : bigE a <;> cases h2 : bigE b <;> simp [runL, h, h2])
    (fun i s x hx hI => ?_) (fun _ _ _ _ _ _ _ => trivial) (fun s hI => Ev.of fun n again => ?_)
  · have hi := lt_of_some hx
    refine (s39 x).mono fun n h again => ?_
    have hg : [[Tree.sl 3 (a.map Event.enc)], [Tree.sl 3 (b.map Event.enc)]][i]? = some [Tree.sl 3 (x.map Event.enc)] := by
      have : [[Tree.sl 3 (a.map Event.enc)], [Tree.sl 3 (b.map Event.enc)]] = [a, b].map fun x => [Tree.sl 3 (x.map Event.enc)] := rfl
      rw [this, List.getElem?_map, hx]; rfl
    have hi2 : (i : Int) < ((2 : Nat) : Int) := by simp at hi; omega
    simp only [vI_mk, vB_mk, vS_mk, vL_mk, sVer_mk, sOff_mk, sLen_mk, oVer_mk, oEs_mk, cI_mk, cB_mk, cS_mk, cL_mk, cVer_mk, cOff_mk, cLen_mk, gI_zero, gI_succ, gB_zero, gB_succ, gS_zero, gS_succ, gL_zero, gL_succ, okI_zero, okI_succ, okB_zero, okB_succ, okS_zero, okS_succ, okL_zero, okL_succ, isIntT_int, isBoolT_bool, isStrT_str, isSlT_sl, intOf_int, boolOf_bool, strOf_str, slOf_sl, treeOf_t, srVer_sref, srOff_sref, srLen_sref, ver_row, esOf_row, cellOf_box, List.getD_cons_zero, List.getD_cons_succ, decide_true, decide_false, cnd_true, cnd_false, true_and, and_true, false_and, and_false, Option.bind_some, Option.bind_none, List.length_cons, List.length_nil, List.length_map, List.getElem?_map, Option.map_some, Option.map_none, Int.toNat_natCast, reduceCtorEq, eq_self, if_true, if_false, Nat.zero_add, Nat.reduceAdd, Nat.reduceEqDiff, Int.natCast_nonneg, List.drop_zero, or_true, true_or, or_false, false_or, Bool.not_true, Bool.not_false, Bool.false_eq_true, decide_eq_true_eq, ge_iff_le, gt_iff_lt, hg, h, hi2, w64_succ (show i < 4611686018427387904 by simp at hi; omega)]
    cases bigE x <;> simp [cnd_eq, Rd.go_done, Rd.go_next]
  · simp only [vI_mk, vB_mk, vS_mk, vL_mk, sVer_mk, sOff_mk, sLen_mk, oVer_mk, oEs_mk, cI_mk, cB_mk, cS_mk, cL_mk, cVer_mk, cOff_mk, cLen_mk, gI_zero, gI_succ, gB_zero, gB_succ, gS_zero, gS_succ, gL_zero, gL_succ, okI_zero, okI_succ, okB_zero, okB_succ, okS_zero, okS_succ, okL_zero, okL_succ, isIntT_int, isBoolT_bool, isStrT_str, isSlT_sl, intOf_int, boolOf_bool, strOf_str, slOf_sl, treeOf_t, srVer_sref, srOff_sref, srLen_sref, ver_row, esOf_row, cellOf_box, List.getD_cons_zero, List.getD_cons_succ, decide_true, decide_false, cnd_true, cnd_false, true_and, and_true, false_and, and_false, Option.bind_some, Option.bind_none, List.length_cons, List.length_nil, List.length_map, List.getElem?_map, Option.map_some, Option.map_none, Int.toNat_natCast, reduceCtorEq, eq_self, if_true, if_false, Nat.zero_add, Nat.reduceAdd, Nat.reduceEqDiff, Int.natCast_nonneg, List.drop_zero, or_true, true_or, or_false, false_or, Bool.not_true, Bool.not_false, Bool.false_eq_true, decide_eq_true_eq, ge_iff_le, gt_iff_lt, Int.lt_irrefl]
theorem mrgL_len (a b : List Event) : (mrgL a b).length ≤ 1000 := by
  unfold mrgL mrgC
  grind
theorem law7 (a b : List Event) : Runs C 7 [.sl 3 (a.map Event.enc), .sl 3 (b.map Event.enc)] [.bool true] := by
  refine Runs.of (fun n => e7 n _ _) ?_
  refine ((s15b a b).and (s11.and ((s30 a b).and ((s31 a b).and (s20 (mrgL a b) (mrgL a b) (by have := mrgL_len a b; omega)))))).mono fun n h => ?_
  obtain ⟨h1, h2, h3, h4, h5⟩ := h
  simp only [h1, h2, h3, h4, h5, vI_mk, vB_mk, vS_mk, vL_mk, sVer_mk, sOff_mk, sLen_mk, oVer_mk, oEs_mk, cI_mk, cB_mk, cS_mk, cL_mk, cVer_mk, cOff_mk, cLen_mk, gI_zero, gI_succ, gB_zero, gB_succ, gS_zero, gS_succ, gL_zero, gL_succ, okI_zero, okI_succ, okB_zero, okB_succ, okS_zero, okS_succ, okL_zero, okL_succ, isIntT_int, isBoolT_bool, isStrT_str, isSlT_sl, intOf_int, boolOf_bool, strOf_str, slOf_sl, treeOf_t, srVer_sref, srOff_sref, srLen_sref, ver_row, esOf_row, cellOf_box, List.getD_cons_zero, List.getD_cons_succ, decide_true, decide_false, cnd_true, cnd_false, true_and, and_true, false_and, and_false, Option.bind_some, Option.bind_none, List.length_cons, List.length_nil, List.length_map, List.getElem?_map, Option.map_some, Option.map_none, Int.toNat_natCast, reduceCtorEq, eq_self, if_true, if_false, Nat.zero_add, Nat.reduceAdd, Nat.reduceEqDiff, Int.natCast_nonneg, List.drop_zero, or_true, true_or, or_false, false_or, Bool.not_true, Bool.not_false, Bool.false_eq_true, decide_eq_true_eq, ge_iff_le, gt_iff_lt, beq_self_eq_true]
  cases bigE a || bigE b <;> simp [cnd_eq]

theorem s49 (l : List Event) (e : Event) (hl : l.length ≤ 1000000) : Runs C 49 [.sl 3 (l.map Event.enc), tI e.time, tI e.kind, tI e.number] [tI (((l.findIdx? (· = e)).map Int.ofNat).getD (-1))] := by
  refine Runs.of (fun n => e49 n _ _ _ _) ?_
  refine loop_overQ (fun r => [tI r]) l (fun i _ => (([.t (tI i)], []) : List AV × Heap)) (fun i _ x => if x = e then .done (i : Int) else .next ()) (fun _ => -1) (fun _ _ => True) () rfl trivial ?_
    (fun i s x hx hI => Ev.of fun n again => ?_) (fun _ _ _ _ _ _ _ => trivial) (fun s hI => Ev.of fun n again => ?_)
  · have : ∀ (l : List Event) (i : Nat), runL (fun i (_ : Unit) (x : Event) => if x = e then .done (i : Int) else .next ()) (fun _ => (-1 : Int)) i l () = ((l.findIdx? (· = e)).map fun j => ((i + j : Nat) : Int)).getD (-1) := by
      intro l
      induction l with
      | nil => intro i; rfl
      | cons x l ih =>
        intro i
        by_cases hx : x = e
        · simp [runL, hx, List.findIdx?_cons]
        · simp only [runL, hx, if_false, List.findIdx?_cons, decide_false]
          rw [ih (i + 1)]
          simp only [Bool.false_eq_true, if_false, Option.map_map]
          congr 2
          funext j
          simp only [Function.comp_apply]
          omega
    have h := this l 0
    simp only [Nat.zero_add] at h
    exact h
  · have hi := lt_of_some hx
    simp only [vI_mk, vB_mk, vS_mk, vL_mk, sVer_mk, sOff_mk, sLen_mk, oVer_mk, oEs_mk, cI_mk, cB_mk, cS_mk, cL_mk, cVer_mk, cOff_mk, cLen_mk, gI_zero, gI_succ, gB_zero, gB_succ, gS_zero, gS_succ, gL_zero, gL_succ, okI_zero, okI_succ, okB_zero, okB_succ, okS_zero, okS_succ, okL_zero, okL_succ, isIntT_int, isBoolT_bool, isStrT_str, isSlT_sl, intOf_int, boolOf_bool, strOf_str, slOf_sl, treeOf_t, srVer_sref, srOff_sref, srLen_sref, ver_row, esOf_row, cellOf_box, List.getD_cons_zero, List.getD_cons_succ, decide_true, decide_false, cnd_true, cnd_false, true_and, and_true, false_and, and_false, Option.bind_some, Option.bind_none, List.length_cons, List.length_nil, List.length_map, List.getElem?_map, Option.map_some, Option.map_none, Int.toNat_natCast, reduceCtorEq, eq_self, if_true, if_false, Nat.zero_add, Nat.reduceAdd, Nat.reduceEqDiff, Int.natCast_nonneg, List.drop_zero, or_true, true_or, or_false, false_or, Bool.not_true, Bool.not_false, Bool.false_eq_true, decide_eq_true_eq, ge_iff_le, gt_iff_lt, hx, Event.enc, w64_succ (show i < 4611686018427387904 by omega), (show (i : Int) < l.length by omega)]
    cases x with | mk x1 x2 x3 =>
    cases e with | mk y1 y2 y3 =>
    simp only [cnd_eq, Event.mk.injEq]
    grind [Rd.go_next, Rd.go_done]
  · simp only [vI_mk, vB_mk, vS_mk, vL_mk, sVer_mk, sOff_mk, sLen_mk, oVer_mk, oEs_mk, cI_mk, cB_mk, cS_mk, cL_mk, cVer_mk, cOff_mk, cLen_mk, gI_zero, gI_succ, gB_zero, gB_succ, gS_zero, gS_succ, gL_zero, gL_succ, okI_zero, okI_succ, okB_zero, okB_succ, okS_zero, okS_succ, okL_zero, okL_succ, isIntT_int, isBoolT_bool, isStrT_str, isSlT_sl, intOf_int, boolOf_bool, strOf_str, slOf_sl, treeOf_t, srVer_sref, srOff_sref, srLen_sref, ver_row, esOf_row, cellOf_box, List.getD_cons_zero, List.getD_cons_succ, decide_true, decide_false, cnd_true, cnd_false, true_and, and_true, false_and, and_false, Option.bind_some, Option.bind_none, List.length_cons, List.length_nil, List.length_map, List.getElem?_map, Option.map_some, Option.map_none, Int.toNat_natCast, reduceCtorEq, eq_self, if_true, if_false, Nat.zero_add, Nat.reduceAdd, Nat.reduceEqDiff, Int.natCast_nonneg, List.drop_zero, or_true, true_or, or_false, false_or, Bool.not_true, Bool.not_false, Bool.false_eq_true, decide_eq_true_eq, ge_iff_le, gt_iff_lt, Int.lt_irrefl]
theorem s34 (l : List Event) (e : Event) (hl : l.length ≤ 1000000) (hm : e ∈ l) : Runs C 34 [.sl 3 (l.map Event.enc), tI e.time, tI e.kind, tI e.number] [.bool true] := by
  refine Runs.of (fun n => e34 n _ _ _ _) ?_
  refine (s49 l e hl).mono fun n h => ?_
  simp only [h, vI_mk, vB_mk, vS_mk, vL_mk, sVer_mk, sOff_mk, sLen_mk, oVer_mk, oEs_mk, cI_mk, cB_mk, cS_mk, cL_mk, cVer_mk, cOff_mk, cLen_mk, gI_zero, gI_succ, gB_zero, gB_succ, gS_zero, gS_succ, gL_zero, gL_succ, okI_zero, okI_succ, okB_zero, okB_succ, okS_zero, okS_succ, okL_zero, okL_succ, isIntT_int, isBoolT_bool, isStrT_str, isSlT_sl, intOf_int, boolOf_bool, strOf_str, slOf_sl, treeOf_t, srVer_sref, srOff_sref, srLen_sref, ver_row, esOf_row, cellOf_box, List.getD_cons_zero, List.getD_cons_succ, decide_true, decide_false, cnd_true, cnd_false, true_and, and_true, false_and, and_false, Option.bind_some, Option.bind_none, List.length_cons, List.length_nil, List.length_map, List.getElem?_map, Option.map_some, Option.map_none, Int.toNat_natCast, reduceCtorEq, eq_self, if_true, if_false, Nat.zero_add, Nat.reduceAdd, Nat.reduceEqDiff, Int.natCast_nonneg, List.drop_zero, or_true, true_or, or_false, false_or, Bool.not_true, Bool.not_false, Bool.false_eq_true, decide_eq_true_eq, ge_iff_le, gt_iff_lt]
  congr 3
  cases hf : l.findIdx? (· = e) with
  | none =>
    rw [List.findIdx?_eq_none_iff] at hf
    have := hf e hm
    simp at this
  | some j =>
    have : (0 : Int) ≤ Int.ofNat j := Int.natCast_nonneg j
    simp [this]

theorem good_merge {m k : Nat} {a b : List Event} (ha : GoodA m a) (hb : GoodA k b) : GoodA (m + k) (mergeL a b) :=
  ⟨by have := mergeL_len a b; have := ha.1; have := hb.1; omega, fun e he => by
    rcases (mergeL_mem a b e).1 he with h | h
    · exact ha.2.1 e h
    · exact hb.2.1 e h, mergeL_srt a b ha.2.2 hb.2.2⟩
theorem mrg_good {m k : Nat} {a b : List Event} (hmk : m + k ≤ 1000) (ha : GoodA m a) (hb : GoodA k b) : mrgC a b = 0 ∧ mrgL a b = mergeL a b := by
  have h1 := good_check (by omega) ha
  have h2 := good_check (by omega) hb
  have h3 := (good_merge ha hb).1
  have : mrgC a b = 0 := by unfold mrgC; simp [h1, h2]; omega
  exact ⟨this, by simp [mrgL, this]⟩

theorem law9 (a b c : List Event) : Runs C 9 [.sl 3 (a.map Event.enc), .sl 3 (b.map Event.enc), .sl 3 (c.map Event.enc)] [.bool true] := by
  refine Runs.of (fun n => e9 n _ _ _) ?_
  by_cases hbig : a.length > 40 ∨ b.length > 40 ∨ c.length > 40
  · refine s11.mono fun n h => ?_
    simp only [h, vI_mk, vB_mk, vS_mk, vL_mk, sVer_mk, sOff_mk, sLen_mk, oVer_mk, oEs_mk, cI_mk, cB_mk, cS_mk, cL_mk, cVer_mk, cOff_mk, cLen_mk, gI_zero, gI_succ, gB_zero, gB_succ, gS_zero, gS_succ, gL_zero, gL_succ, okI_zero, okI_succ, okB_zero, okB_succ, okS_zero, okS_succ, okL_zero, okL_succ, isIntT_int, isBoolT_bool, isStrT_str, isSlT_sl, intOf_int, boolOf_bool, strOf_str, slOf_sl, treeOf_t, srVer_sref, srOff_sref, srLen_sref, ver_row, esOf_row, cellOf_box, List.getD_cons_zero, List.getD_cons_succ, decide_true, decide_false, cnd_true, cnd_false, true_and, and_true, false_and, and_false, Option.bind_some, Option.bind_none, List.length_cons, List.length_nil, List.length_map, List.getElem?_map, Option.map_some, Option.map_none, Int.toNat_natCast, reduceCtorEq, eq_self, if_true, if_false, Nat.zero_add, Nat.reduceAdd, Nat.reduceEqDiff, Int.natCast_nonneg, List.drop_zero, or_true, true_or, or_false, false_or, Bool.not_true, Bool.not_false, Bool.false_eq_true, decide_eq_true_eq, ge_iff_le, gt_iff_lt]
    simp only [cnd_eq]
    grind
  have la : ¬ (40 : Int) < a.length := by omega
  have lb : ¬ (40 : Int) < b.length := by omega
  have lc : ¬ (40 : Int) < c.length := by omega
  by_cases hc : agCheck a = 0 ∧ agCheck b = 0 ∧ agCheck c = 0
  · obtain ⟨ca, cb, cc⟩ := hc
    have ga : GoodA 40 a := ⟨by omega, ((ag_srt a).1 ca).2⟩
    have gb : GoodA 40 b := ⟨by omega, ((ag_srt b).1 cb).2⟩
    have gc : GoodA 40 c := ⟨by omega, ((ag_srt c).1 cc).2⟩
    have gx := good_merge ga gb
    have gy := good_merge gb ga
    have gz := good_merge gb gc
    have gl := good_merge gx gc
    have gr := good_merge ga gz
    have gs := good_merge gx ga
    have cx := good_check (by omega) gx
    have exy : mergeL b a = mergeL a b := srt_ext gy.2.2 gx.2.2 fun z => by rw [mergeL_mem, mergeL_mem]; exact Or.comm
    have elr : mergeL a (mergeL b c) = mergeL (mergeL a b) c := srt_ext gr.2.2 gl.2.2 fun z => by
      rw [mergeL_mem, mergeL_mem, mergeL_mem, mergeL_mem]; exact or_assoc.symm
    have esx : mergeL (mergeL a b) a = mergeL a b := srt_ext gs.2.2 gx.2.2 fun z => by
      rw [mergeL_mem, mergeL_mem]
      constructor
      · rintro ((h | h) | h)
        · exact .inl h
        · exact .inr h
        · exact .inl h
      · exact .inl
    obtain ⟨x1, x2⟩ := mrg_good (by omega) ga gb
    obtain ⟨y1, y2⟩ := mrg_good (by omega) gb ga
    obtain ⟨z1, z2⟩ := mrg_good (by omega) gb gc
    obtain ⟨l1, l2⟩ := mrg_good (by omega) gx gc
    obtain ⟨r1, r2⟩ := mrg_good (by omega) ga gz
    obtain ⟨t1, t2⟩ := mrg_good (by omega) gx ga
    have q1 := s30 a b; rw [x1, x2] at q1
    have q2 := s30 b a; rw [y1, y2, exy] at q2
    have q3 := s30 (mergeL a b) c; rw [l1, l2] at q3
    have q4 := s30 b c; rw [z1, z2] at q4
    have q5 := s30 a (mergeL b c); rw [r1, r2, elr] at q5
    have q6 := s30 (mergeL a b) a; rw [t1, t2, esx] at q6
    have q7 := s10 (mergeL a b); rw [cx] at q7
    have qa := s10 a; rw [ca] at qa
    have qb := s10 b; rw [cb] at qb
    have qc := s10 c; rw [cc] at qc
    have hcat : Runs C 1000026 [Tree.sl 1 [[Tree.sl 3 (List.map Event.enc a)], [Tree.sl 3 (List.map Event.enc b)]]] [Tree.sl 3 ((a ++ b).map Event.enc)] := by
      have := sConcat [a.map Event.enc, b.map Event.enc] (by simp) (by simp; omega)
      simp only [List.flatten_cons, List.flatten_nil, List.append_nil, ← List.map_append] at this
      exact this
    refine Ev.rw (T' := ?TT) (q1.and (q2.and (q3.and (q4.and (q5.and (q6.and (q7.and (qa.and (qb.and (qc.and hcat)))))))))) (fun n h => ?g1) ?g2
    case g1 =>
      obtain ⟨h1, h2, h3, h4, h5, h6, h7, h8, h9, h10, h11⟩ := h
      simp only [h1, h2, h3, h4, h5, h6, h7, h8, h9, h10, h11, vI_mk, vB_mk, vS_mk, vL_mk, sVer_mk, sOff_mk, sLen_mk, oVer_mk, oEs_mk, cI_mk, cB_mk, cS_mk, cL_mk, cVer_mk, cOff_mk, cLen_mk, gI_zero, gI_succ, gB_zero, gB_succ, gS_zero, gS_succ, gL_zero, gL_succ, okI_zero, okI_succ, okB_zero, okB_succ, okS_zero, okS_succ, okL_zero, okL_succ, isIntT_int, isBoolT_bool, isStrT_str, isSlT_sl, intOf_int, boolOf_bool, strOf_str, slOf_sl, treeOf_t, srVer_sref, srOff_sref, srLen_sref, ver_row, esOf_row, cellOf_box, List.getD_cons_zero, List.getD_cons_succ, decide_true, decide_false, cnd_true, cnd_false, true_and, and_true, false_and, and_false, Option.bind_some, Option.bind_none, List.length_cons, List.length_nil, List.length_map, List.getElem?_map, Option.map_some, Option.map_none, Int.toNat_natCast, reduceCtorEq, eq_self, if_true, if_false, Nat.zero_add, Nat.reduceAdd, Nat.reduceEqDiff, Int.natCast_nonneg, List.drop_zero, or_true, true_or, or_false, false_or, Bool.not_true, Bool.not_false, Bool.false_eq_true, decide_eq_true_eq, ge_iff_le, gt_iff_lt, la, lb, lc, bne_self_eq_false]
      rfl
    case g2 =>
      have hlen : (a ++ b).length ≤ 80 := by simp; omega
      have hsub : ∀ e ∈ a ++ b, e ∈ mergeL a b := fun e he => (mergeL_mem a b e).2 (List.mem_append.1 he)
      have hw : w64 ((a.length : Int) + (b.length : Int)) = ((a.length + b.length : Nat) : Int) := by rw [w64_id (by omega) (by omega)]; omega
      have hll := mergeL_len a b
      generalize a ++ b = m at *
      refine loop_overQ (fun (r : Bool) => [Tree.bool r]) m (fun i (_ : Unit) => (([.t (tI i)], [.row false 0 3 (m.map Event.enc)]) : List AV × Heap)) (fun _ b x => .next ()) (fun s => true) (fun i b => True) () rfl trivial (runL_fold (fun _ _ => ()) (fun _ => true) 0 m ())
        (fun i u x hx hI => ?_) (fun _ _ _ _ _ _ _ => trivial) (fun u hI => ?_)
      · have hi := lt_of_some hx
        refine (s34 (mergeL a b) x (by omega) (hsub x (List.mem_of_getElem? hx))).mono fun n h again => ?_
        simp only [vI_mk, vB_mk, vS_mk, vL_mk, sVer_mk, sOff_mk, sLen_mk, oVer_mk, oEs_mk, cI_mk, cB_mk, cS_mk, cL_mk, cVer_mk, cOff_mk, cLen_mk, gI_zero, gI_succ, gB_zero, gB_succ, gS_zero, gS_succ, gL_zero, gL_succ, okI_zero, okI_succ, okB_zero, okB_succ, okS_zero, okS_succ, okL_zero, okL_succ, isIntT_int, isBoolT_bool, isStrT_str, isSlT_sl, intOf_int, boolOf_bool, strOf_str, slOf_sl, treeOf_t, srVer_sref, srOff_sref, srLen_sref, ver_row, esOf_row, cellOf_box, List.getD_cons_zero, List.getD_cons_succ, decide_true, decide_false, cnd_true, cnd_false, true_and, and_true, false_and, and_false, Option.bind_some, Option.bind_none, List.length_cons, List.length_nil, List.length_map, List.getElem?_map, Option.map_some, Option.map_none, Int.toNat_natCast, reduceCtorEq, eq_self, if_true, if_false, Nat.zero_add, Nat.reduceAdd, Nat.reduceEqDiff, Int.natCast_nonneg, List.drop_zero, or_true, true_or, or_false, false_or, Bool.not_true, Bool.not_false, Bool.false_eq_true, decide_eq_true_eq, ge_iff_le, gt_iff_lt, hx, Event.enc, h, (show (i : Int) < m.length by omega), w64_succ (show i < 4611686018427387904 by omega), Rd.go_next]
      · refine ((s20 (mergeL a b) (mergeL a b) (by omega)).and ((s20 (mergeL (mergeL a b) c) (mergeL (mergeL a b) c) (by have := gl.1; omega)).and s11)).mono fun n h again => ?_
        obtain ⟨h1, h2, h3⟩ := h
        simp only [vI_mk, vB_mk, vS_mk, vL_mk, sVer_mk, sOff_mk, sLen_mk, oVer_mk, oEs_mk, cI_mk, cB_mk, cS_mk, cL_mk, cVer_mk, cOff_mk, cLen_mk, gI_zero, gI_succ, gB_zero, gB_succ, gS_zero, gS_succ, gL_zero, gL_succ, okI_zero, okI_succ, okB_zero, okB_succ, okS_zero, okS_succ, okL_zero, okL_succ, isIntT_int, isBoolT_bool, isStrT_str, isSlT_sl, intOf_int, boolOf_bool, strOf_str, slOf_sl, treeOf_t, srVer_sref, srOff_sref, srLen_sref, ver_row, esOf_row, cellOf_box, List.getD_cons_zero, List.getD_cons_succ, decide_true, decide_false, cnd_true, cnd_false, true_and, and_true, false_and, and_false, Option.bind_some, Option.bind_none, List.length_cons, List.length_nil, List.length_map, List.getElem?_map, Option.map_some, Option.map_none, Int.toNat_natCast, reduceCtorEq, eq_self, if_true, if_false, Nat.zero_add, Nat.reduceAdd, Nat.reduceEqDiff, Int.natCast_nonneg, List.drop_zero, or_true, true_or, or_false, false_or, Bool.not_true, Bool.not_false, Bool.false_eq_true, decide_eq_true_eq, ge_iff_le, gt_iff_lt, Int.lt_irrefl, h1, h2, h3, hw, (show ((mergeL a b).length : Int) ≤ ((a.length + b.length : Nat) : Int) by omega)]
  · refine ((s10 a).and ((s10 b).and ((s10 c).and s11))).mono fun n h => ?_
    obtain ⟨h1, h2, h3, h4⟩ := h
    simp only [h1, h2, h3, h4, vI_mk, vB_mk, vS_mk, vL_mk, sVer_mk, sOff_mk, sLen_mk, oVer_mk, oEs_mk, cI_mk, cB_mk, cS_mk, cL_mk, cVer_mk, cOff_mk, cLen_mk, gI_zero, gI_succ, gB_zero, gB_succ, gS_zero, gS_succ, gL_zero, gL_succ, okI_zero, okI_succ, okB_zero, okB_succ, okS_zero, okS_succ, okL_zero, okL_succ, isIntT_int, isBoolT_bool, isStrT_str, isSlT_sl, intOf_int, boolOf_bool, strOf_str, slOf_sl, treeOf_t, srVer_sref, srOff_sref, srLen_sref, ver_row, esOf_row, cellOf_box, List.getD_cons_zero, List.getD_cons_succ, decide_true, decide_false, cnd_true, cnd_false, true_and, and_true, false_and, and_false, Option.bind_some, Option.bind_none, List.length_cons, List.length_nil, List.length_map, List.getElem?_map, Option.map_some, Option.map_none, Int.toNat_natCast, reduceCtorEq, eq_self, if_true, if_false, Nat.zero_add, Nat.reduceAdd, Nat.reduceEqDiff, Int.natCast_nonneg, List.drop_zero, or_true, true_or, or_false, false_or, Bool.not_true, Bool.not_false, Bool.false_eq_true, decide_eq_true_eq, ge_iff_le, gt_iff_lt, la, lb, lc, cnd_eq, bne_iff_ne]
    by_cases c1 : agCheck a = 0
    · by_cases c2 : agCheck b = 0
      · have c3 : ¬ agCheck c = 0 := fun h => hc ⟨c1, c2, h⟩
        simp [c1, c2, c3]
      · simp [c1, c2]
    · simp [c1]
end Ab
