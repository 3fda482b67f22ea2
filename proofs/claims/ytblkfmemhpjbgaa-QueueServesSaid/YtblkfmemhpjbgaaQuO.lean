/- Queue: the law Serves; runs. -/
import Derived.Test.YtblkfmemhpjbgaaQuN
set_option linter.unusedVariables false
set_option linter.unusedSimpArgs false
namespace Ab
open Go


theorem runQ_ind {l : List Arr} {rate : Int} (P : QS → Prop) (Q : List Int → Prop) (hstep : ∀ s t, P s → timeQ s = some t → P (stepQ l rate t s)) (hend : ∀ s, P s → timeQ s = none → Q s.out) : ∀ (k : Nat) (s : QS), muQ s ≤ k → P s → Q (runQ l rate s)
  | k, s, hk, hP => by
    rw [runQ_eq]
    cases ht : timeQ s with
    | none =>
      have : roundQ l rate s = .done s.out := by unfold roundQ; rw [ht]
      rw [this]
      exact hend s hP ht
    | some t =>
      have : roundQ l rate s = .next (stepQ l rate t s) := by unfold roundQ; rw [ht]
      rw [this]
      have hm := mu_step (l := l) (rate := rate) ht
      obtain ⟨k, rfl⟩ : ∃ q, k = q + 1 := ⟨k - 1, by omega⟩
      exact runQ_ind P Q hstep hend k _ (by omega) (hstep s t hP ht)
theorem checkR_zero {l : List Arr} {rate : Int} : checkR l rate = 0 ↔ (1 ≤ rate ∧ rate ≤ 1000) ∧ GoodA l := by
  unfold checkR
  split
  · constructor
    · intro h; cases h
    · intro h; omega
  · rw [checkA_zero]
    constructor
    · intro h; exact ⟨by omega, h⟩
    · intro h; exact h.2
theorem serve_len {l : List Arr} (hg : GoodA l) {rate : Int} (hr : 1 ≤ rate ∧ rate ≤ 1000) : (serveQ l rate).length = l.length :=
  runQ_ind (QInv l) (fun o => o.length = l.length) (fun s t h ht => h.step hg hr ht) (fun s h _ => h.out) _ (startQ l) (Nat.le_refl _) QInv.start
theorem servR_len (l : List Arr) (rate : Int) : (servR l rate).1.length ≤ l.length := by
  unfold servR
  split
  · simp
  · rename_i h
    have := (checkR_zero (l := l) (rate := rate)).1 (Classical.not_not.1 h)
    rw [serve_len this.2 this.1]
    omega
theorem s11 (l : List (List Tree)) : Runs C 11 [.sl 5 l] [.bool (great l.length)] := by
  refine Runs.of (fun n => e11 n _) (Ev.of fun n => ?_)
  unfold great
  by_cases h1 : 12 < l.length
  · by_cases h2 : l.length < 63
    · simp only [vI_mk, vB_mk, vS_mk, vL_mk, sVer_mk, sOff_mk, sLen_mk, oVer_mk, oEs_mk, cI_mk, cB_mk, cS_mk, cL_mk, cVer_mk, cOff_mk, cLen_mk, gI_zero, gI_succ, gB_zero, gB_succ, gS_zero, gS_succ, gL_zero, gL_succ, okI_zero, okI_succ, okB_zero, okB_succ, okS_zero, okS_succ, okL_zero, okL_succ, isIntT_int, isBoolT_bool, isStrT_str, isSlT_sl, intOf_int, boolOf_bool, strOf_str, slOf_sl, treeOf_t, srVer_sref, srOff_sref, srLen_sref, ver_row, esOf_row, cellOf_box, aI_mk, aB_mk, aS_mk, aL_mk, aggOf_agg, join_eq, List.getD_cons_zero, List.getD_cons_succ, decide_true, decide_false, cnd_true, cnd_false, true_and, and_true, false_and, and_false, Option.bind_some, Option.bind_none, List.length_cons, List.length_nil, List.length_map, List.getElem?_map, Option.map_some, Option.map_none, Int.toNat_natCast, reduceCtorEq, eq_self, if_true, if_false, Nat.zero_add, Nat.reduceAdd, Nat.reduceEqDiff, Int.natCast_nonneg, List.drop_zero, or_true, true_or, or_false, false_or, Bool.not_true, Bool.not_false, Bool.false_eq_true, decide_eq_true_eq, ge_iff_le, gt_iff_lt, (show (12 : Int) < (l.length : Int) by omega), (show (l.length : Int) < 63 by omega), h1, h2]
    · simp only [vI_mk, vB_mk, vS_mk, vL_mk, sVer_mk, sOff_mk, sLen_mk, oVer_mk, oEs_mk, cI_mk, cB_mk, cS_mk, cL_mk, cVer_mk, cOff_mk, cLen_mk, gI_zero, gI_succ, gB_zero, gB_succ, gS_zero, gS_succ, gL_zero, gL_succ, okI_zero, okI_succ, okB_zero, okB_succ, okS_zero, okS_succ, okL_zero, okL_succ, isIntT_int, isBoolT_bool, isStrT_str, isSlT_sl, intOf_int, boolOf_bool, strOf_str, slOf_sl, treeOf_t, srVer_sref, srOff_sref, srLen_sref, ver_row, esOf_row, cellOf_box, aI_mk, aB_mk, aS_mk, aL_mk, aggOf_agg, join_eq, List.getD_cons_zero, List.getD_cons_succ, decide_true, decide_false, cnd_true, cnd_false, true_and, and_true, false_and, and_false, Option.bind_some, Option.bind_none, List.length_cons, List.length_nil, List.length_map, List.getElem?_map, Option.map_some, Option.map_none, Int.toNat_natCast, reduceCtorEq, eq_self, if_true, if_false, Nat.zero_add, Nat.reduceAdd, Nat.reduceEqDiff, Int.natCast_nonneg, List.drop_zero, or_true, true_or, or_false, false_or, Bool.not_true, Bool.not_false, Bool.false_eq_true, decide_eq_true_eq, ge_iff_le, gt_iff_lt, (show (12 : Int) < (l.length : Int) by omega), (show ¬ (l.length : Int) < 63 by omega), h1, h2]
      congr 3
      simp
      omega
  · simp only [vI_mk, vB_mk, vS_mk, vL_mk, sVer_mk, sOff_mk, sLen_mk, oVer_mk, oEs_mk, cI_mk, cB_mk, cS_mk, cL_mk, cVer_mk, cOff_mk, cLen_mk, gI_zero, gI_succ, gB_zero, gB_succ, gS_zero, gS_succ, gL_zero, gL_succ, okI_zero, okI_succ, okB_zero, okB_succ, okS_zero, okS_succ, okL_zero, okL_succ, isIntT_int, isBoolT_bool, isStrT_str, isSlT_sl, intOf_int, boolOf_bool, strOf_str, slOf_sl, treeOf_t, srVer_sref, srOff_sref, srLen_sref, ver_row, esOf_row, cellOf_box, aI_mk, aB_mk, aS_mk, aL_mk, aggOf_agg, join_eq, List.getD_cons_zero, List.getD_cons_succ, decide_true, decide_false, cnd_true, cnd_false, true_and, and_true, false_and, and_false, Option.bind_some, Option.bind_none, List.length_cons, List.length_nil, List.length_map, List.getElem?_map, Option.map_some, Option.map_none, Int.toNat_natCast, reduceCtorEq, eq_self, if_true, if_false, Nat.zero_add, Nat.reduceAdd, Nat.reduceEqDiff, Int.natCast_nonneg, List.drop_zero, or_true, true_or, or_false, false_or, Bool.not_true, Bool.not_false, Bool.false_eq_true, decide_eq_true_eq, ge_iff_le, gt_iff_lt, (show ¬ (12 : Int) < (l.length : Int) by omega), h1, (show ¬ (70 : Int) < (l.length : Int) by omega), (show ¬ 70 < l.length by omega)]
theorem law3 (l : List Arr) (rate : Int) : Runs C 3 [.sl 5 (l.map Arr.enc), tI rate] [.bool true] := by
  refine Runs.of (fun n => e3 n _ _) ?_
  have hg := s11 (l.map Arr.enc)
  rw [List.length_map] at hg
  cases hgr : great l.length with
  | true =>
    rw [hgr] at hg
    refine (hg.and s12).mono fun n h => ?_
    simp only [h.1, h.2, vI_mk, vB_mk, vS_mk, vL_mk, sVer_mk, sOff_mk, sLen_mk, oVer_mk, oEs_mk, cI_mk, cB_mk, cS_mk, cL_mk, cVer_mk, cOff_mk, cLen_mk, gI_zero, gI_succ, gB_zero, gB_succ, gS_zero, gS_succ, gL_zero, gL_succ, okI_zero, okI_succ, okB_zero, okB_succ, okS_zero, okS_succ, okL_zero, okL_succ, isIntT_int, isBoolT_bool, isStrT_str, isSlT_sl, intOf_int, boolOf_bool, strOf_str, slOf_sl, treeOf_t, srVer_sref, srOff_sref, srLen_sref, ver_row, esOf_row, cellOf_box, aI_mk, aB_mk, aS_mk, aL_mk, aggOf_agg, join_eq, List.getD_cons_zero, List.getD_cons_succ, decide_true, decide_false, cnd_true, cnd_false, true_and, and_true, false_and, and_false, Option.bind_some, Option.bind_none, List.length_cons, List.length_nil, List.length_map, List.getElem?_map, Option.map_some, Option.map_none, Int.toNat_natCast, reduceCtorEq, eq_self, if_true, if_false, Nat.zero_add, Nat.reduceAdd, Nat.reduceEqDiff, Int.natCast_nonneg, List.drop_zero, or_true, true_or, or_false, false_or, Bool.not_true, Bool.not_false, Bool.false_eq_true, decide_eq_true_eq, ge_iff_le, gt_iff_lt]
  | false =>
    rw [hgr] at hg
    have h70 := big_great hgr
    have hsl := servR_len l rate
    refine (hg.and (s12.and ((s13 l rate (by omega)).and ((s14 l rate (by omega)).and (s15 (servR l rate).1 (servR l rate).1 (by omega)))))).mono fun n h => ?_
    obtain ⟨h1, h2, h3, h4, h5⟩ := h
    simp only [h1, vI_mk, vB_mk, vS_mk, vL_mk, sVer_mk, sOff_mk, sLen_mk, oVer_mk, oEs_mk, cI_mk, cB_mk, cS_mk, cL_mk, cVer_mk, cOff_mk, cLen_mk, gI_zero, gI_succ, gB_zero, gB_succ, gS_zero, gS_succ, gL_zero, gL_succ, okI_zero, okI_succ, okB_zero, okB_succ, okS_zero, okS_succ, okL_zero, okL_succ, isIntT_int, isBoolT_bool, isStrT_str, isSlT_sl, intOf_int, boolOf_bool, strOf_str, slOf_sl, treeOf_t, srVer_sref, srOff_sref, srLen_sref, ver_row, esOf_row, cellOf_box, aI_mk, aB_mk, aS_mk, aL_mk, aggOf_agg, join_eq, List.getD_cons_zero, List.getD_cons_succ, decide_true, decide_false, cnd_true, cnd_false, true_and, and_true, false_and, and_false, Option.bind_some, Option.bind_none, List.length_cons, List.length_nil, List.length_map, List.getElem?_map, Option.map_some, Option.map_none, Int.toNat_natCast, reduceCtorEq, eq_self, if_true, if_false, Nat.zero_add, Nat.reduceAdd, Nat.reduceEqDiff, Int.natCast_nonneg, List.drop_zero, or_true, true_or, or_false, false_or, Bool.not_true, Bool.not_false, Bool.false_eq_true, decide_eq_true_eq, ge_iff_le, gt_iff_lt, h3, h4, h5, beq_self_eq_true, h2]
end Ab
