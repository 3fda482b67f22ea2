/- Agenda: Remove, and the law Changes. -/
import Derived.Test.YtglkblaagdoagaaAgC
set_option linter.unusedVariables false
set_option linter.unusedSimpArgs false
namespace Ab
open Go

theorem pos_lt {l : List Event} {e : Event} (hs : Srt l) (hm : e ∈ l) : pos l e < l.length := by
  rcases Nat.lt_or_ge (pos l e) l.length with h | h
  · exact h
  · have h2 : pos l e = l.length := Nat.le_antisymm (pos_le l e) h
    have := List.countP_eq_length.1 h2 e hm
    simp [lt_irr] at this
theorem rowSet_len (es : List (List Tree)) (p : Nat) (new : List (List Tree)) (h : p + new.length ≤ es.length) : (rowSet es p new).length = es.length := by
  simp [rowSet]; omega
theorem rowSet_take (es : List (List Tree)) (p : Nat) (new : List (List Tree)) (h : p + new.length ≤ es.length) : (rowSet es p new).take (p + new.length) = es.take p ++ new := by
  unfold rowSet
  rw [List.take_append_of_le_length (by simp; omega), List.take_of_length_le (by simp; omega)]
theorem rowSet_keep (es : List (List Tree)) (p k : Nat) (new : List (List Tree)) (hk : k ≤ p) (h : p ≤ es.length) : (rowSet es p new).take k = es.take k := by
  unfold rowSet
  rw [List.append_assoc, List.take_append_of_le_length (by simp; omega), List.take_take, Nat.min_eq_left hk]

theorem s23 (l : List Event) (e : Event) : Runs C 23 [.sl 3 (l.map Event.enc), tI e.time, tI e.kind, tI e.number] [.sl 3 ((remL l e).map Event.enc), tI (remC l e)] := by
  refine Runs.of (fun n => e23 n _ _ _ _) ?_
  by_cases h0 : agCheck l = 0
  · have hg := (ag_srt l).1 h0
    refine ((s10 l).and ((s42 l e hg.2.2 hg.1).and (sClone (l.map Event.enc) (by simp; omega)))).mono fun n ⟨h1, h3, h4⟩ => ?_
    simp only [h1, h3, h4, vI_mk, vB_mk, vS_mk, vL_mk, sVer_mk, sOff_mk, sLen_mk, oVer_mk, oEs_mk, cI_mk, cB_mk, cS_mk, cL_mk, cVer_mk, cOff_mk, cLen_mk, gI_zero, gI_succ, gB_zero, gB_succ, gS_zero, gS_succ, gL_zero, gL_succ, okI_zero, okI_succ, okB_zero, okB_succ, okS_zero, okS_succ, okL_zero, okL_succ, isIntT_int, isBoolT_bool, isStrT_str, isSlT_sl, intOf_int, boolOf_bool, strOf_str, slOf_sl, treeOf_t, srVer_sref, srOff_sref, srLen_sref, ver_row, esOf_row, cellOf_box, List.getD_cons_zero, List.getD_cons_succ, decide_true, decide_false, cnd_true, cnd_false, true_and, and_true, false_and, and_false, Option.bind_some, Option.bind_none, List.length_cons, List.length_nil, List.length_map, List.getElem?_map, Option.map_some, Option.map_none, Int.toNat_natCast, reduceCtorEq, eq_self, if_true, if_false, Nat.zero_add, Nat.reduceAdd, Nat.reduceEqDiff, Int.natCast_nonneg, List.drop_zero, or_true, true_or, or_false, false_or, Bool.not_true, Bool.not_false, Bool.false_eq_true, decide_eq_true_eq, ge_iff_le, gt_iff_lt, h0, bne_self_eq_false]
    unfold remL remC
    by_cases hm : e ∈ l
    · have hp := pos_lt hg.2.2 hm
      have hw : w64 ((pos l e : Int) + 1) = ((pos l e + 1 : Nat) : Int) := w64_succ (by omega)
      have hne : ((pos l e : Int) == ((pos l e + 1 : Nat) : Int)) = false := by simp; omega
      simp only [hw, hne, hm, vI_mk, vB_mk, vS_mk, vL_mk, sVer_mk, sOff_mk, sLen_mk, oVer_mk, oEs_mk, cI_mk, cB_mk, cS_mk, cL_mk, cVer_mk, cOff_mk, cLen_mk, gI_zero, gI_succ, gB_zero, gB_succ, gS_zero, gS_succ, gL_zero, gL_succ, okI_zero, okI_succ, okB_zero, okB_succ, okS_zero, okS_succ, okL_zero, okL_succ, isIntT_int, isBoolT_bool, isStrT_str, isSlT_sl, intOf_int, boolOf_bool, strOf_str, slOf_sl, treeOf_t, srVer_sref, srOff_sref, srLen_sref, ver_row, esOf_row, cellOf_box, List.getD_cons_zero, List.getD_cons_succ, decide_true, decide_false, cnd_true, cnd_false, true_and, and_true, false_and, and_false, Option.bind_some, Option.bind_none, List.length_cons, List.length_nil, List.length_map, List.getElem?_map, Option.map_some, Option.map_none, Int.toNat_natCast, reduceCtorEq, eq_self, if_true, if_false, Nat.zero_add, Nat.reduceAdd, Nat.reduceEqDiff, Int.natCast_nonneg, List.drop_zero, or_true, true_or, or_false, false_or, Bool.not_true, Bool.not_false, Bool.false_eq_true, decide_eq_true_eq, ge_iff_le, gt_iff_lt, h0, ne_eq, not_true_eq_false, Nat.sub_zero, Int.le_refl, (show (pos l e : Int) ≤ l.length by omega), (show ((pos l e + 1 : Nat) : Int) ≤ l.length by omega), (show (pos l e : Int) ≤ ((pos l e + 1 : Nat) : Int) by omega), Nat.add_one_ne_zero]
      rw [← remv_eq hg.2.2 hm]
      by_cases hlast : pos l e + 1 < l.length
      · have e1 : List.take (l.length - (pos l e + 1)) (List.drop (pos l e + 1) (List.map Event.enc l)) = List.drop (pos l e + 1) (List.map Event.enc l) := List.take_of_length_le (by simp)
        have e2 : (List.drop (pos l e + 1) (List.map Event.enc l)).length = l.length - (pos l e + 1) := by simp
        have e3 := rowSet_len (l.map Event.enc) (pos l e) (List.drop (pos l e + 1) (List.map Event.enc l)) (by simp; omega)
        have e4 := rowSet_take (l.map Event.enc) (pos l e) (List.drop (pos l e + 1) (List.map Event.enc l)) (by simp; omega)
        simp only [e2] at e4
        simp only [List.length_map] at e3
        simp only [hlast, e1, e2, e3, vI_mk, vB_mk, vS_mk, vL_mk, sVer_mk, sOff_mk, sLen_mk, oVer_mk, oEs_mk, cI_mk, cB_mk, cS_mk, cL_mk, cVer_mk, cOff_mk, cLen_mk, gI_zero, gI_succ, gB_zero, gB_succ, gS_zero, gS_succ, gL_zero, gL_succ, okI_zero, okI_succ, okB_zero, okB_succ, okS_zero, okS_succ, okL_zero, okL_succ, isIntT_int, isBoolT_bool, isStrT_str, isSlT_sl, intOf_int, boolOf_bool, strOf_str, slOf_sl, treeOf_t, srVer_sref, srOff_sref, srLen_sref, ver_row, esOf_row, cellOf_box, List.getD_cons_zero, List.getD_cons_succ, decide_true, decide_false, cnd_true, cnd_false, true_and, and_true, false_and, and_false, Option.bind_some, Option.bind_none, List.length_cons, List.length_nil, List.length_map, List.getElem?_map, Option.map_some, Option.map_none, Int.toNat_natCast, reduceCtorEq, eq_self, if_true, if_false, Nat.zero_add, Nat.reduceAdd, Nat.reduceEqDiff, Int.natCast_nonneg, List.drop_zero, or_true, true_or, or_false, false_or, Bool.not_true, Bool.not_false, Bool.false_eq_true, decide_eq_true_eq, ge_iff_le, gt_iff_lt, (show pos l e + (l.length - (pos l e + 1)) ≤ l.length by omega), Int.le_refl, (show ((pos l e + (l.length - (pos l e + 1)) : Nat) : Int) ≤ (l.length : Int) by omega), (show pos l e + (l.length - (pos l e + 1)) < l.length by omega)]
        rw [rowSet_keep _ _ _ _ (Nat.le_refl _) (by rw [e3]; omega), e4]
        simp [List.map_take, List.map_drop]
      · simp only [hlast, vI_mk, vB_mk, vS_mk, vL_mk, sVer_mk, sOff_mk, sLen_mk, oVer_mk, oEs_mk, cI_mk, cB_mk, cS_mk, cL_mk, cVer_mk, cOff_mk, cLen_mk, gI_zero, gI_succ, gB_zero, gB_succ, gS_zero, gS_succ, gL_zero, gL_succ, okI_zero, okI_succ, okB_zero, okB_succ, okS_zero, okS_succ, okL_zero, okL_succ, isIntT_int, isBoolT_bool, isStrT_str, isSlT_sl, intOf_int, boolOf_bool, strOf_str, slOf_sl, treeOf_t, srVer_sref, srOff_sref, srLen_sref, ver_row, esOf_row, cellOf_box, List.getD_cons_zero, List.getD_cons_succ, decide_true, decide_false, cnd_true, cnd_false, true_and, and_true, false_and, and_false, Option.bind_some, Option.bind_none, List.length_cons, List.length_nil, List.length_map, List.getElem?_map, Option.map_some, Option.map_none, Int.toNat_natCast, reduceCtorEq, eq_self, if_true, if_false, Nat.zero_add, Nat.reduceAdd, Nat.reduceEqDiff, Int.natCast_nonneg, List.drop_zero, or_true, true_or, or_false, false_or, Bool.not_true, Bool.not_false, Bool.false_eq_true, decide_eq_true_eq, ge_iff_le, gt_iff_lt, hp, Int.le_refl, Nat.add_zero, (show (pos l e : Int) ≤ (l.length : Int) by omega)]
        rw [rowSet_keep _ _ _ _ (Nat.le_refl _) (by simp; omega)]
        rw [List.drop_eq_nil_of_le (show l.length ≤ pos l e + 1 by omega)]
        simp [List.map_take]
    · simp [h0, hm, cnd_eq]
  · refine (s10 l).mono fun n h => ?_
    simp only [h, vI_mk, vB_mk, vS_mk, vL_mk, sVer_mk, sOff_mk, sLen_mk, oVer_mk, oEs_mk, cI_mk, cB_mk, cS_mk, cL_mk, cVer_mk, cOff_mk, cLen_mk, gI_zero, gI_succ, gB_zero, gB_succ, gS_zero, gS_succ, gL_zero, gL_succ, okI_zero, okI_succ, okB_zero, okB_succ, okS_zero, okS_succ, okL_zero, okL_succ, isIntT_int, isBoolT_bool, isStrT_str, isSlT_sl, intOf_int, boolOf_bool, strOf_str, slOf_sl, treeOf_t, srVer_sref, srOff_sref, srLen_sref, ver_row, esOf_row, cellOf_box, List.getD_cons_zero, List.getD_cons_succ, decide_true, decide_false, cnd_true, cnd_false, true_and, and_true, false_and, and_false, Option.bind_some, Option.bind_none, List.length_cons, List.length_nil, List.length_map, List.getElem?_map, Option.map_some, Option.map_none, Int.toNat_natCast, reduceCtorEq, eq_self, if_true, if_false, Nat.zero_add, Nat.reduceAdd, Nat.reduceEqDiff, Int.natCast_nonneg, List.drop_zero, or_true, true_or, or_false, false_or, Bool.not_true, Bool.not_false, Bool.false_eq_true, decide_eq_true_eq, ge_iff_le, gt_iff_lt]
    rw [cnd_pos (by simp [h0])]
    simp [remL, remC, h0]
theorem s24 (l : List Event) (e : Event) : Runs C 24 [.sl 3 (l.map Event.enc), tI e.time, tI e.kind, tI e.number] [.sl 3 ((remL l e).map Event.enc), tI (remC l e)] := by
  refine Runs.of (fun n => e24 n _ _ _ _) ?_
  by_cases h0 : agCheck l = 0
  · have hg := (ag_srt l).1 h0
    by_cases hm : e ∈ l
    · rw [show remL l e = remv e l by simp [remL, remC, h0, hm], show remC l e = 0 by simp [remC, h0, hm]]
      refine Ev.rw (T' := ?T') ((s25 l).and (s44 l e (by omega))) (fun n h => ?a) ?b
      case a =>
        simp only [h.1, h.2, vI_mk, vB_mk, vS_mk, vL_mk, sVer_mk, sOff_mk, sLen_mk, oVer_mk, oEs_mk, cI_mk, cB_mk, cS_mk, cL_mk, cVer_mk, cOff_mk, cLen_mk, gI_zero, gI_succ, gB_zero, gB_succ, gS_zero, gS_succ, gL_zero, gL_succ, okI_zero, okI_succ, okB_zero, okB_succ, okS_zero, okS_succ, okL_zero, okL_succ, isIntT_int, isBoolT_bool, isStrT_str, isSlT_sl, intOf_int, boolOf_bool, strOf_str, slOf_sl, treeOf_t, srVer_sref, srOff_sref, srLen_sref, ver_row, esOf_row, cellOf_box, List.getD_cons_zero, List.getD_cons_succ, decide_true, decide_false, cnd_true, cnd_false, true_and, and_true, false_and, and_false, Option.bind_some, Option.bind_none, List.length_cons, List.length_nil, List.length_map, List.getElem?_map, Option.map_some, Option.map_none, Int.toNat_natCast, reduceCtorEq, eq_self, if_true, if_false, Nat.zero_add, Nat.reduceAdd, Nat.reduceEqDiff, Int.natCast_nonneg, List.drop_zero, or_true, true_or, or_false, false_or, Bool.not_true, Bool.not_false, Bool.false_eq_true, decide_eq_true_eq, ge_iff_le, gt_iff_lt, h0, hm, bne_self_eq_false]
        rfl
      case b =>
        refine loop_overQ (fun (r : List Event) => [Tree.sl 3 (r.map Event.enc), tI 0]) l (fun i (s : Nat × List Event) => (([.sref 0 s.1 0 s.2.length, .t (tI i)], [.row false s.1 3 (s.2.map Event.enc)]) : List AV × Heap)) (fun _ s x => .next (if x = e then s else (s.1 + 1, s.2 ++ [x]))) (fun s => s.2) (fun i s => s.2.length ≤ i) (0, []) rfl (by simp) (r := remv e l) ?_
          (fun i s x hx hI => ?_) (fun i s x s' hx hI hs' => ?_) (fun s hI => Ev.of fun n again => ?_)
        · rw [runL_fold]
          have : ∀ (l : List Event) (s : Nat × List Event), (l.foldl (fun (s : Nat × List Event) x => if x = e then s else (s.1 + 1, s.2 ++ [x])) s).2 = s.2 ++ remv e l := by
            intro l
            induction l with
            | nil => intro s; simp [remv]
            | cons x l ih =>
              intro s
              rw [List.foldl_cons, ih]
              by_cases hx : x = e <;> simp [remv, hx]
          rw [this]; rfl
        · have hi := lt_of_some hx
          obtain ⟨v, out⟩ := s
          simp only at hI
          refine Ev.of fun n again => ?_
          simp only [vI_mk, vB_mk, vS_mk, vL_mk, sVer_mk, sOff_mk, sLen_mk, oVer_mk, oEs_mk, cI_mk, cB_mk, cS_mk, cL_mk, cVer_mk, cOff_mk, cLen_mk, gI_zero, gI_succ, gB_zero, gB_succ, gS_zero, gS_succ, gL_zero, gL_succ, okI_zero, okI_succ, okB_zero, okB_succ, okS_zero, okS_succ, okL_zero, okL_succ, isIntT_int, isBoolT_bool, isStrT_str, isSlT_sl, intOf_int, boolOf_bool, strOf_str, slOf_sl, treeOf_t, srVer_sref, srOff_sref, srLen_sref, ver_row, esOf_row, cellOf_box, List.getD_cons_zero, List.getD_cons_succ, decide_true, decide_false, cnd_true, cnd_false, true_and, and_true, false_and, and_false, Option.bind_some, Option.bind_none, List.length_cons, List.length_nil, List.length_map, List.getElem?_map, Option.map_some, Option.map_none, Int.toNat_natCast, reduceCtorEq, eq_self, if_true, if_false, Nat.zero_add, Nat.reduceAdd, Nat.reduceEqDiff, Int.natCast_nonneg, List.drop_zero, or_true, true_or, or_false, false_or, Bool.not_true, Bool.not_false, Bool.false_eq_true, decide_eq_true_eq, ge_iff_le, gt_iff_lt, hx, Event.enc, (show (i : Int) < l.length by omega), w64_succ (show i < 4611686018427387904 by omega), Rd.go_next, (show out.length + 1 ≤ 1073741824 by omega)]
          by_cases hxe : x = e
          · subst hxe
            simp [cnd_eq]
          · have : (!(true && x.time == e.time && x.kind == e.kind && x.number == e.number)) = true := by
              cases x; cases e
              simp only [Event.mk.injEq] at hxe
              simp
              omega
            rw [cnd_pos this]
            simp [hxe, Event.enc, cnd_eq]
        · simp only [Rd.next.injEq] at hs'
          subst hs'
          split
          · omega
          · simp; omega
        · obtain ⟨v, out⟩ := s
          simp only [vI_mk, vB_mk, vS_mk, vL_mk, sVer_mk, sOff_mk, sLen_mk, oVer_mk, oEs_mk, cI_mk, cB_mk, cS_mk, cL_mk, cVer_mk, cOff_mk, cLen_mk, gI_zero, gI_succ, gB_zero, gB_succ, gS_zero, gS_succ, gL_zero, gL_succ, okI_zero, okI_succ, okB_zero, okB_succ, okS_zero, okS_succ, okL_zero, okL_succ, isIntT_int, isBoolT_bool, isStrT_str, isSlT_sl, intOf_int, boolOf_bool, strOf_str, slOf_sl, treeOf_t, srVer_sref, srOff_sref, srLen_sref, ver_row, esOf_row, cellOf_box, List.getD_cons_zero, List.getD_cons_succ, decide_true, decide_false, cnd_true, cnd_false, true_and, and_true, false_and, and_false, Option.bind_some, Option.bind_none, List.length_cons, List.length_nil, List.length_map, List.getElem?_map, Option.map_some, Option.map_none, Int.toNat_natCast, reduceCtorEq, eq_self, if_true, if_false, Nat.zero_add, Nat.reduceAdd, Nat.reduceEqDiff, Int.natCast_nonneg, List.drop_zero, or_true, true_or, or_false, false_or, Bool.not_true, Bool.not_false, Bool.false_eq_true, decide_eq_true_eq, ge_iff_le, gt_iff_lt, Int.lt_irrefl]
          simp [List.take_of_length_le]
    · refine ((s25 l).and (s44 l e (by omega))).mono fun n h => ?_
      simp only [h.1, h.2, vI_mk, vB_mk, vS_mk, vL_mk, sVer_mk, sOff_mk, sLen_mk, oVer_mk, oEs_mk, cI_mk, cB_mk, cS_mk, cL_mk, cVer_mk, cOff_mk, cLen_mk, gI_zero, gI_succ, gB_zero, gB_succ, gS_zero, gS_succ, gL_zero, gL_succ, okI_zero, okI_succ, okB_zero, okB_succ, okS_zero, okS_succ, okL_zero, okL_succ, isIntT_int, isBoolT_bool, isStrT_str, isSlT_sl, intOf_int, boolOf_bool, strOf_str, slOf_sl, treeOf_t, srVer_sref, srOff_sref, srLen_sref, ver_row, esOf_row, cellOf_box, List.getD_cons_zero, List.getD_cons_succ, decide_true, decide_false, cnd_true, cnd_false, true_and, and_true, false_and, and_false, Option.bind_some, Option.bind_none, List.length_cons, List.length_nil, List.length_map, List.getElem?_map, Option.map_some, Option.map_none, Int.toNat_natCast, reduceCtorEq, eq_self, if_true, if_false, Nat.zero_add, Nat.reduceAdd, Nat.reduceEqDiff, Int.natCast_nonneg, List.drop_zero, or_true, true_or, or_false, false_or, Bool.not_true, Bool.not_false, Bool.false_eq_true, decide_eq_true_eq, ge_iff_le, gt_iff_lt, h0, hm, bne_self_eq_false]
      simp [remL, remC, h0, hm]
  · refine (s25 l).mono fun n h => ?_
    simp only [h, vI_mk, vB_mk, vS_mk, vL_mk, sVer_mk, sOff_mk, sLen_mk, oVer_mk, oEs_mk, cI_mk, cB_mk, cS_mk, cL_mk, cVer_mk, cOff_mk, cLen_mk, gI_zero, gI_succ, gB_zero, gB_succ, gS_zero, gS_succ, gL_zero, gL_succ, okI_zero, okI_succ, okB_zero, okB_succ, okS_zero, okS_succ, okL_zero, okL_succ, isIntT_int, isBoolT_bool, isStrT_str, isSlT_sl, intOf_int, boolOf_bool, strOf_str, slOf_sl, treeOf_t, srVer_sref, srOff_sref, srLen_sref, ver_row, esOf_row, cellOf_box, List.getD_cons_zero, List.getD_cons_succ, decide_true, decide_false, cnd_true, cnd_false, true_and, and_true, false_and, and_false, Option.bind_some, Option.bind_none, List.length_cons, List.length_nil, List.length_map, List.getElem?_map, Option.map_some, Option.map_none, Int.toNat_natCast, reduceCtorEq, eq_self, if_true, if_false, Nat.zero_add, Nat.reduceAdd, Nat.reduceEqDiff, Int.natCast_nonneg, List.drop_zero, or_true, true_or, or_false, false_or, Bool.not_true, Bool.not_false, Bool.false_eq_true, decide_eq_true_eq, ge_iff_le, gt_iff_lt]
    rw [cnd_pos (by simp [h0])]
    simp [remL, remC, h0]

theorem addL_len (l : List Event) (e : Event) : (addL l e).length ≤ 1001 := by
  unfold addL
  split
  · rename_i h
    rw [insr_len]
    have : agCheck l = 0 := by unfold addC at h; grind
    have := check_len this
    omega
  · simp
theorem remL_len (l : List Event) (e : Event) : (remL l e).length ≤ 1001 := by
  unfold remL
  split
  · rename_i h
    have : agCheck l = 0 := by unfold remC at h; grind
    have := check_len this
    have := remv_len e l
    omega
  · simp
theorem law5 (l : List Event) (e : Event) : Runs C 5 [.sl 3 (l.map Event.enc), tI e.time, tI e.kind, tI e.number] [.bool true] := by
  refine Runs.of (fun n => e5 n _ _ _ _) ?_
  refine ((s15 l).and (s11.and ((s21 l e).and ((s22 l e).and ((s23 l e).and ((s24 l e).and ((s10 l).and ((s25 l).and ((s20 (addL l e) (addL l e) (by have := addL_len l e; omega)).and (s20 (remL l e) (remL l e) (by have := remL_len l e; omega))))))))))).mono fun n ⟨h1, h2, h3, h4, h5, h6, h7, h8, h9, h10⟩ => ?_
  simp only [h1, h2, h3, h4, h5, h6, h7, h8, h9, h10, vI_mk, vB_mk, vS_mk, vL_mk, sVer_mk, sOff_mk, sLen_mk, oVer_mk, oEs_mk, cI_mk, cB_mk, cS_mk, cL_mk, cVer_mk, cOff_mk, cLen_mk, gI_zero, gI_succ, gB_zero, gB_succ, gS_zero, gS_succ, gL_zero, gL_succ, okI_zero, okI_succ, okB_zero, okB_succ, okS_zero, okS_succ, okL_zero, okL_succ, isIntT_int, isBoolT_bool, isStrT_str, isSlT_sl, intOf_int, boolOf_bool, strOf_str, slOf_sl, treeOf_t, srVer_sref, srOff_sref, srLen_sref, ver_row, esOf_row, cellOf_box, List.getD_cons_zero, List.getD_cons_succ, decide_true, decide_false, cnd_true, cnd_false, true_and, and_true, false_and, and_false, Option.bind_some, Option.bind_none, List.length_cons, List.length_nil, List.length_map, List.getElem?_map, Option.map_some, Option.map_none, Int.toNat_natCast, reduceCtorEq, eq_self, if_true, if_false, Nat.zero_add, Nat.reduceAdd, Nat.reduceEqDiff, Int.natCast_nonneg, List.drop_zero, or_true, true_or, or_false, false_or, Bool.not_true, Bool.not_false, Bool.false_eq_true, decide_eq_true_eq, ge_iff_le, gt_iff_lt, beq_self_eq_true, Bool.and_self]
  cases bigE l <;> simp [cnd_eq]
end Ab
