/- Queue: Serve of the reference runs as the model. -/
import Derived.Test.YtblkfmemhpjbgaaQuG
set_option linter.unusedVariables false
set_option linter.unusedSimpArgs false
set_option maxHeartbeats 1000000
namespace Ab
open Go


def bxE (x : Entry) : AObj := .box [.t (tI x.ticket), .t (tI x.prio), .t (tI x.exp), .t (tI x.size)]
def hpR (l : List Arr) (o : List Int) (x : Entry) : Heap := [.row false l.length 1 (o.map encI), bxE x]
def stR (l : List Arr) (s : QS) : List AV × Heap := ([.t (.bool s.busy), .t (.sl 4 (s.wait.map Entry.enc)), .t (tI ((l.length - s.co.length : Nat) : Int)), .t (tI s.fin)], hpR l s.out s.now)
theorem r1 (l : List Arr) {rate : Int} (hr : 1 ≤ rate ∧ rate ≤ 1000) {t : Int} (ht : 0 ≤ t ∧ t ≤ 1099520016384) (s : QS) (hs : QMid l s) (p7 p14 p27 : List AV × Heap) (h1 : vI p27 1 = ((l.length - s.co.length : Nat) : Int)) (h2 : vI p14 0 = t) (h3 : vI p7 3 = s.fin) (n : Nat) (z : List AV × Heap → Option (List Tree)) :
    J14_3 n rate z p27 p14 p7 ([.t (.sl 4 (s.wait.map Entry.enc)), .t (.bool s.busy)], hpR l s.out s.now) = z (stR l (begQ rate t s)) := by
  unfold begQ stR hpR bxE
  obtain ⟨co, wait, now, fin, busy, out⟩ := s
  cases busy with
  | true => simp only [J14_3, J14_2, vI_mk, vB_mk, vS_mk, vL_mk, sVer_mk, sOff_mk, sLen_mk, oVer_mk, oEs_mk, cI_mk, cB_mk, cS_mk, cL_mk, cVer_mk, cOff_mk, cLen_mk, gI_zero, gI_succ, gB_zero, gB_succ, gS_zero, gS_succ, gL_zero, gL_succ, okI_zero, okI_succ, okB_zero, okB_succ, okS_zero, okS_succ, okL_zero, okL_succ, isIntT_int, isBoolT_bool, isStrT_str, isSlT_sl, intOf_int, boolOf_bool, strOf_str, slOf_sl, treeOf_t, srVer_sref, srOff_sref, srLen_sref, ver_row, esOf_row, cellOf_box, aI_mk, aB_mk, aS_mk, aL_mk, aggOf_agg, join_eq, List.getD_cons_zero, List.getD_cons_succ, decide_true, decide_false, cnd_true, cnd_false, true_and, and_true, false_and, and_false, Option.bind_some, Option.bind_none, List.length_cons, List.length_nil, List.length_map, List.getElem?_map, Option.map_some, Option.map_none, Int.toNat_natCast, reduceCtorEq, eq_self, if_true, if_false, Nat.zero_add, Nat.reduceAdd, Nat.reduceEqDiff, Int.natCast_nonneg, List.drop_zero, or_true, true_or, or_false, false_or, Bool.not_true, Bool.not_false, Bool.false_eq_true, decide_eq_true_eq, ge_iff_le, gt_iff_lt, h1, h2, h3, hpR, bxE]
  | false =>
    cases wait with
    | nil => simp only [J14_3, J14_2, vI_mk, vB_mk, vS_mk, vL_mk, sVer_mk, sOff_mk, sLen_mk, oVer_mk, oEs_mk, cI_mk, cB_mk, cS_mk, cL_mk, cVer_mk, cOff_mk, cLen_mk, gI_zero, gI_succ, gB_zero, gB_succ, gS_zero, gS_succ, gL_zero, gL_succ, okI_zero, okI_succ, okB_zero, okB_succ, okS_zero, okS_succ, okL_zero, okL_succ, isIntT_int, isBoolT_bool, isStrT_str, isSlT_sl, intOf_int, boolOf_bool, strOf_str, slOf_sl, treeOf_t, srVer_sref, srOff_sref, srLen_sref, ver_row, esOf_row, cellOf_box, aI_mk, aB_mk, aS_mk, aL_mk, aggOf_agg, join_eq, List.getD_cons_zero, List.getD_cons_succ, decide_true, decide_false, cnd_true, cnd_false, true_and, and_true, false_and, and_false, Option.bind_some, Option.bind_none, List.length_cons, List.length_nil, List.length_map, List.getElem?_map, Option.map_some, Option.map_none, Int.toNat_natCast, reduceCtorEq, eq_self, if_true, if_false, Nat.zero_add, Nat.reduceAdd, Nat.reduceEqDiff, Int.natCast_nonneg, List.drop_zero, or_true, true_or, or_false, false_or, Bool.not_true, Bool.not_false, Bool.false_eq_true, decide_eq_true_eq, ge_iff_le, gt_iff_lt, h1, h2, h3, List.map_nil, Int.natCast_zero, Int.lt_irrefl]
    | cons x r =>
      have hx : ValidE x := hs.wv x (by simp)
      obtain ⟨d1, d2, d3⟩ := dur_bd hr hx
      have hsz := hx
      unfold ValidE at hsz
      have w1 : w64 (x.size + rate) = x.size + rate := w64_id (by omega) (by omega)
      have w2 : w64 (x.size + rate - 1) = x.size + rate - 1 := w64_id (by omega) (by omega)
      have w3 : w64 (durQ rate x) = durQ rate x := w64_id (by omega) (by omega)
      have w4 : w64 (t + durQ rate x) = t + durQ rate x := w64_id (by omega) (by omega)
      have e1 : List.take r.length (List.map Entry.enc r) = List.map Entry.enc r := List.take_of_length_le (by simp)
      simp only [J14_3, J14_2, vI_mk, vB_mk, vS_mk, vL_mk, sVer_mk, sOff_mk, sLen_mk, oVer_mk, oEs_mk, cI_mk, cB_mk, cS_mk, cL_mk, cVer_mk, cOff_mk, cLen_mk, gI_zero, gI_succ, gB_zero, gB_succ, gS_zero, gS_succ, gL_zero, gL_succ, okI_zero, okI_succ, okB_zero, okB_succ, okS_zero, okS_succ, okL_zero, okL_succ, isIntT_int, isBoolT_bool, isStrT_str, isSlT_sl, intOf_int, boolOf_bool, strOf_str, slOf_sl, treeOf_t, srVer_sref, srOff_sref, srLen_sref, ver_row, esOf_row, cellOf_box, aI_mk, aB_mk, aS_mk, aL_mk, aggOf_agg, join_eq, List.getD_cons_zero, List.getD_cons_succ, decide_true, decide_false, cnd_true, cnd_false, true_and, and_true, false_and, and_false, Option.bind_some, Option.bind_none, List.length_cons, List.length_nil, List.length_map, List.getElem?_map, Option.map_some, Option.map_none, Int.toNat_natCast, reduceCtorEq, eq_self, if_true, if_false, Nat.zero_add, Nat.reduceAdd, Nat.reduceEqDiff, Int.natCast_nonneg, List.drop_zero, or_true, true_or, or_false, false_or, Bool.not_true, Bool.not_false, Bool.false_eq_true, decide_eq_true_eq, ge_iff_le, gt_iff_lt, h1, h2, h3, List.map_cons, List.getElem?_cons_zero, Entry.enc, (show (0 : Int) < ((r.length + 1 : Nat) : Int) by omega), (show (0 : Int) ≤ 1 by omega), (show (1 : Int) ≤ ((r.length + 1 : Nat) : Int) by omega), (show ¬ rate = 0 by omega), w1, w2, d3, w3, w4, List.take_succ_cons, List.drop_succ_cons, e1]
theorem r2 (l : List Arr) (hl : l.length ≤ 64) {rate : Int} (hr : 1 ≤ rate ∧ rate ≤ 1000) {t : Int} (ht : 0 ≤ t ∧ t ≤ 1099520016384) (s : QS) (hs : QMid l s) (p7 p14 p27 p19 : List AV × Heap) (a0 : List (List Tree)) (h1 : vI p27 1 = ((l.length - s.co.length : Nat) : Int)) (h2 : vI p14 0 = t) (h3 : vI p7 3 = s.fin) (h4 : vL p27 0 = s.wait.map Entry.enc) (h5 : vB p19 0 = s.busy) :
    Ev fun n => ∀ ag28 z, J14_5 n p27 a0 ag28 p14 rate z p7 p19 ([.t (.bool false)], hpR l s.out s.now) = z (stR l (begQ rate t (preQ t (expQ t s)))) := by
  have hwl := hs.wl
  have hfl := fresh_len s.wait t
  have hlw : s.wait.length ≤ 1000000 := by omega
  have hx := hs.exp t
  have hp := hx.pre t
  have n1 := r1 l hr ht (preQ t (expQ t s)) hp p7 p14 p27
  have hfin : (preQ t (expQ t s)).fin = s.fin := by
    unfold preQ
    split
    · split <;> rfl
    · rfl
  have hco : (preQ t (expQ t s)).co = s.co := by
    unfold preQ
    split
    · split <;> rfl
    · rfl
  rw [hfin, hco] at n1
  have n2 := n1 h1 h2 h3
  cases hf : freshQ s.wait t with
  | nil =>
    have hpre : preQ t (expQ t s) = expQ t s := by unfold preQ expQ; simp only [hf]
    rw [hpre] at n2 ⊢
    simp only [expQ, hf, List.map_nil, hpR, bxE] at n2
    refine (s42 s.wait t hlw).mono fun n h ag28 z => ?_
    rw [hf] at h
    cases hb : s.busy with
    | true =>
      rw [hb] at n2
      simp only [J14_5, J14_4, hpR, bxE, vI_mk, vB_mk, vS_mk, vL_mk, sVer_mk, sOff_mk, sLen_mk, oVer_mk, oEs_mk, cI_mk, cB_mk, cS_mk, cL_mk, cVer_mk, cOff_mk, cLen_mk, gI_zero, gI_succ, gB_zero, gB_succ, gS_zero, gS_succ, gL_zero, gL_succ, okI_zero, okI_succ, okB_zero, okB_succ, okS_zero, okS_succ, okL_zero, okL_succ, isIntT_int, isBoolT_bool, isStrT_str, isSlT_sl, intOf_int, boolOf_bool, strOf_str, slOf_sl, treeOf_t, srVer_sref, srOff_sref, srLen_sref, ver_row, esOf_row, cellOf_box, aI_mk, aB_mk, aS_mk, aL_mk, aggOf_agg, join_eq, List.getD_cons_zero, List.getD_cons_succ, decide_true, decide_false, cnd_true, cnd_false, true_and, and_true, false_and, and_false, Option.bind_some, Option.bind_none, List.length_cons, List.length_nil, List.length_map, List.getElem?_map, Option.map_some, Option.map_none, Int.toNat_natCast, reduceCtorEq, eq_self, if_true, if_false, Nat.zero_add, Nat.reduceAdd, Nat.reduceEqDiff, Int.natCast_nonneg, List.drop_zero, or_true, true_or, or_false, false_or, Bool.not_true, Bool.not_false, Bool.false_eq_true, decide_eq_true_eq, ge_iff_le, gt_iff_lt, h2, h4, h5, h, hb, List.map_nil, Int.natCast_zero, Int.lt_irrefl]
      simpa only [expQ, hf, hb] using n2 n z
    | false =>
      rw [hb] at n2
      simp only [J14_5, J14_4, hpR, bxE, vI_mk, vB_mk, vS_mk, vL_mk, sVer_mk, sOff_mk, sLen_mk, oVer_mk, oEs_mk, cI_mk, cB_mk, cS_mk, cL_mk, cVer_mk, cOff_mk, cLen_mk, gI_zero, gI_succ, gB_zero, gB_succ, gS_zero, gS_succ, gL_zero, gL_succ, okI_zero, okI_succ, okB_zero, okB_succ, okS_zero, okS_succ, okL_zero, okL_succ, isIntT_int, isBoolT_bool, isStrT_str, isSlT_sl, intOf_int, boolOf_bool, strOf_str, slOf_sl, treeOf_t, srVer_sref, srOff_sref, srLen_sref, ver_row, esOf_row, cellOf_box, aI_mk, aB_mk, aS_mk, aL_mk, aggOf_agg, join_eq, List.getD_cons_zero, List.getD_cons_succ, decide_true, decide_false, cnd_true, cnd_false, true_and, and_true, false_and, and_false, Option.bind_some, Option.bind_none, List.length_cons, List.length_nil, List.length_map, List.getElem?_map, Option.map_some, Option.map_none, Int.toNat_natCast, reduceCtorEq, eq_self, if_true, if_false, Nat.zero_add, Nat.reduceAdd, Nat.reduceEqDiff, Int.natCast_nonneg, List.drop_zero, or_true, true_or, or_false, false_or, Bool.not_true, Bool.not_false, Bool.false_eq_true, decide_eq_true_eq, ge_iff_le, gt_iff_lt, h2, h4, h5, h, hb, List.map_nil, Int.natCast_zero, Int.lt_irrefl]
      simpa only [expQ, hf, hb] using n2 n z
  | cons x r =>
    rw [hf] at hfl
    simp only [List.length_cons] at hfl
    by_cases hb : s.busy = true ∧ pre x s.now
    · have hpre : preQ t (expQ t s) = { expQ t s with busy := false, wait := freshQ (insQ s.now (x :: r)) t } := by
        unfold preQ expQ; simp only [hf]; rw [if_pos hb]
      rw [hpre] at n2 ⊢
      simp only [expQ, hpR, bxE] at n2
      have hil : (insQ s.now (x :: r)).length = r.length + 2 := by rw [insQ, insB_len]; rfl
      refine ((s42 s.wait t hlw).and ((s25 x s.now).and ((s41 (x :: r) s.now (by simp; omega)).and (s42 (insQ s.now (x :: r)) t (by omega))))).mono fun n h ag28 z => ?_
      obtain ⟨k1, k2, k3, k4⟩ := h
      rw [hf] at k1
      have hpd : decide (x.prio = 2 ∧ s.now.prio < 2) = true := decide_eq_true hb.2
      simp only [Entry.enc, List.cons_append, List.nil_append, List.map_cons, hpd] at k1 k2 k3
      simp only [J14_5, J14_4, hpR, bxE, vI_mk, vB_mk, vS_mk, vL_mk, sVer_mk, sOff_mk, sLen_mk, oVer_mk, oEs_mk, cI_mk, cB_mk, cS_mk, cL_mk, cVer_mk, cOff_mk, cLen_mk, gI_zero, gI_succ, gB_zero, gB_succ, gS_zero, gS_succ, gL_zero, gL_succ, okI_zero, okI_succ, okB_zero, okB_succ, okS_zero, okS_succ, okL_zero, okL_succ, isIntT_int, isBoolT_bool, isStrT_str, isSlT_sl, intOf_int, boolOf_bool, strOf_str, slOf_sl, treeOf_t, srVer_sref, srOff_sref, srLen_sref, ver_row, esOf_row, cellOf_box, aI_mk, aB_mk, aS_mk, aL_mk, aggOf_agg, join_eq, List.getD_cons_zero, List.getD_cons_succ, decide_true, decide_false, cnd_true, cnd_false, true_and, and_true, false_and, and_false, Option.bind_some, Option.bind_none, List.length_cons, List.length_nil, List.length_map, List.getElem?_map, Option.map_some, Option.map_none, Int.toNat_natCast, reduceCtorEq, eq_self, if_true, if_false, Nat.zero_add, Nat.reduceAdd, Nat.reduceEqDiff, Int.natCast_nonneg, List.drop_zero, or_true, true_or, or_false, false_or, Bool.not_true, Bool.not_false, Bool.false_eq_true, decide_eq_true_eq, ge_iff_le, gt_iff_lt, h2, h4, h5, k1, hb.1, (show (0 : Int) < ((r.length + 1 : Nat) : Int) by omega), List.getElem?_cons_zero, k2, k3, k4]
      exact n2 n z
    · have hpre : preQ t (expQ t s) = expQ t s := by unfold preQ expQ; simp only [hf]; rw [if_neg hb]
      rw [hpre] at n2 ⊢
      simp only [expQ, hf, hpR, bxE, List.map_cons, Entry.enc] at n2
      refine ((s42 s.wait t hlw).and (s25 x s.now)).mono fun n h ag28 z => ?_
      obtain ⟨k1, k2⟩ := h
      rw [hf] at k1
      cases hbb : s.busy with
      | true =>
        have hpd : decide (x.prio = 2 ∧ s.now.prio < 2) = false := decide_eq_false fun h => hb ⟨hbb, h⟩
        rw [hbb] at n2
        simp only [Entry.enc, List.cons_append, List.nil_append, List.map_cons, hpd] at k1 k2
        simp only [J14_5, J14_4, hpR, bxE, vI_mk, vB_mk, vS_mk, vL_mk, sVer_mk, sOff_mk, sLen_mk, oVer_mk, oEs_mk, cI_mk, cB_mk, cS_mk, cL_mk, cVer_mk, cOff_mk, cLen_mk, gI_zero, gI_succ, gB_zero, gB_succ, gS_zero, gS_succ, gL_zero, gL_succ, okI_zero, okI_succ, okB_zero, okB_succ, okS_zero, okS_succ, okL_zero, okL_succ, isIntT_int, isBoolT_bool, isStrT_str, isSlT_sl, intOf_int, boolOf_bool, strOf_str, slOf_sl, treeOf_t, srVer_sref, srOff_sref, srLen_sref, ver_row, esOf_row, cellOf_box, aI_mk, aB_mk, aS_mk, aL_mk, aggOf_agg, join_eq, List.getD_cons_zero, List.getD_cons_succ, decide_true, decide_false, cnd_true, cnd_false, true_and, and_true, false_and, and_false, Option.bind_some, Option.bind_none, List.length_cons, List.length_nil, List.length_map, List.getElem?_map, Option.map_some, Option.map_none, Int.toNat_natCast, reduceCtorEq, eq_self, if_true, if_false, Nat.zero_add, Nat.reduceAdd, Nat.reduceEqDiff, Int.natCast_nonneg, List.drop_zero, or_true, true_or, or_false, false_or, Bool.not_true, Bool.not_false, Bool.false_eq_true, decide_eq_true_eq, ge_iff_le, gt_iff_lt, h2, h4, h5, k1, hbb, (show (0 : Int) < ((r.length + 1 : Nat) : Int) by omega), List.getElem?_cons_zero, k2]
        simpa only [expQ, hf, hbb] using n2 n z
      | false =>
        rw [hbb] at n2
        simp only [Entry.enc, List.map_cons] at k1
        simp only [J14_5, J14_4, hpR, bxE, vI_mk, vB_mk, vS_mk, vL_mk, sVer_mk, sOff_mk, sLen_mk, oVer_mk, oEs_mk, cI_mk, cB_mk, cS_mk, cL_mk, cVer_mk, cOff_mk, cLen_mk, gI_zero, gI_succ, gB_zero, gB_succ, gS_zero, gS_succ, gL_zero, gL_succ, okI_zero, okI_succ, okB_zero, okB_succ, okS_zero, okS_succ, okL_zero, okL_succ, isIntT_int, isBoolT_bool, isStrT_str, isSlT_sl, intOf_int, boolOf_bool, strOf_str, slOf_sl, treeOf_t, srVer_sref, srOff_sref, srLen_sref, ver_row, esOf_row, cellOf_box, aI_mk, aB_mk, aS_mk, aL_mk, aggOf_agg, join_eq, List.getD_cons_zero, List.getD_cons_succ, decide_true, decide_false, cnd_true, cnd_false, true_and, and_true, false_and, and_false, Option.bind_some, Option.bind_none, List.length_cons, List.length_nil, List.length_map, List.getElem?_map, Option.map_some, Option.map_none, Int.toNat_natCast, reduceCtorEq, eq_self, if_true, if_false, Nat.zero_add, Nat.reduceAdd, Nat.reduceEqDiff, Int.natCast_nonneg, List.drop_zero, or_true, true_or, or_false, false_or, Bool.not_true, Bool.not_false, Bool.false_eq_true, decide_eq_true_eq, ge_iff_le, gt_iff_lt, h2, h4, h5, k1, hbb]
        simpa only [expQ, hf, hbb] using n2 n z
def tkStep (t : Int) (i : Nat) (w : List Entry) (a : Arr) : Rd (List Entry) (Nat × List Entry) := if a.at_ = t then .next (insQ a.e w) else .done (i, w)
theorem tk_run (t : Int) : ∀ (c : List Arr) (i : Nat) (w : List Entry), runL (tkStep t) (fun w => (i + c.length, w)) i c w = (i + (c.takeWhile fun a => decide (a.at_ = t)).length, (c.takeWhile fun a => decide (a.at_ = t)).foldl (fun w a => insQ a.e w) w)
  | [], i, w => rfl
  | a :: c, i, w => by
    unfold tkStep
    simp only [runL]
    by_cases h : a.at_ = t
    · rw [if_pos h]
      have ih := tk_run t c (i + 1) (insQ a.e w)
      unfold tkStep at ih
      simp only [List.takeWhile_cons, h, decide_true, if_true, List.length_cons, List.foldl_cons]
      rw [show i + (c.length + 1) = i + 1 + c.length by omega, ih]
      congr 1
      omega
    · rw [if_neg h]
      simp [List.takeWhile_cons, h]
theorem dw_drop {α : Type} (p : α → Bool) : ∀ (l : List α), l.dropWhile p = l.drop (l.takeWhile p).length
  | [] => rfl
  | x :: l => by
    rw [List.dropWhile_cons, List.takeWhile_cons]
    split
    · simp [dw_drop p l]
    · rfl
theorem r3 (l : List Arr) (hg : GoodA l) {rate : Int} (hr : 1 ≤ rate ∧ rate ≤ 1000) {t : Int} (ht : 0 ≤ t ∧ t ≤ 1099520016384) (s : QS) (hs : QMid l s) (p7 p14 p19 : List AV × Heap) (h1 : vI p7 2 = ((l.length - s.co.length : Nat) : Int)) (h2 : vI p14 0 = t) (h3 : vI p7 3 = s.fin) (h4 : vL p7 1 = s.wait.map Entry.enc) (h5 : vB p19 0 = s.busy) (h6 : p19.2 = hpR l s.out s.now) :
    Ev fun n => ∀ z, J14_7 n (l.map Arr.enc) p14 rate z p7 p19 = z (stR l (begQ rate t (preQ t (expQ t (takeQ t s))))) := by
  have hwl := hs.wl
  have hlen := hg.len
  have hcl : s.co.length ≤ l.length := by omega
  have hoV : oVer p19 0 = l.length := by unfold oVer; rw [h6]; rfl
  have hoE : oEs p19 0 = s.out.map encI := by unfold oEs; rw [h6]; rfl
  have hc0 : cI p19 1 0 = s.now.ticket := by unfold cI; rw [h6]; rfl
  have hc1 : cI p19 1 1 = s.now.prio := by unfold cI; rw [h6]; rfl
  have hc2 : cI p19 1 2 = s.now.exp := by unfold cI; rw [h6]; rfl
  have hc3 : cI p19 1 3 = s.now.size := by unfold cI; rw [h6]; rfl
  have htr := tk_run t s.co 0 s.wait
  simp only [Nat.zero_add] at htr
  have hstate : ∀ (k : Nat) (w : List Entry), k ≤ s.co.length → (∀ (x : Entry), x ∈ w → ValidE x) → w.length = s.wait.length + k →
      Ev fun n => ∀ ag28 z, J14_5 n ([.t (.sl 4 (w.map Entry.enc)), .t (tI ((l.length - s.co.length + k : Nat) : Int))], hpR l s.out s.now) (l.map Arr.enc) ag28 p14 rate z p7 p19 ([.t (.bool false)], hpR l s.out s.now) = z (stR l (begQ rate t (preQ t (expQ t { s with wait := w, co := s.co.drop k })))) := by
    intro k w hk hw hwlen
    refine r2 l hlen hr ht { s with wait := w, co := s.co.drop k } ⟨?_, hs.out, ?_, hw, hs.nv⟩ p7 p14 _ p19 (l.map Arr.enc) ?_ h2 h3 rfl h5
    · simp only
      exact drop_suffix hs.co (List.drop_suffix _ _)
    · simp only [List.length_drop]
      omega
    · show ((l.length - s.co.length + k : Nat) : Int) = ((l.length - (s.co.drop k).length : Nat) : Int)
      rw [List.length_drop]
      congr 1
      omega
  have key := loop_overZ (R := List Tree) (Z := List AV × Heap → Option (List Tree)) (B := fun n z p again => L14_6 n (l.map Arr.enc) p14 rate z p7 p19 p again)
    (s := (([.t (.sl 4 (s.wait.map Entry.enc)), .t (tI ((l.length - s.co.length : Nat) : Int))], hpR l s.out s.now) : List AV × Heap)) s.co
    (fun i (w : List Entry) => (([.t (.sl 4 (w.map Entry.enc)), .t (tI ((l.length - s.co.length + i : Nat) : Int))], hpR l s.out s.now) : List AV × Heap)) (tkStep t) (fun w => (s.co.length, w))
    (fun z (q : Nat × List Entry) => z (stR l (begQ rate t (preQ t (expQ t { s with wait := q.2, co := s.co.drop q.1 })))))
    (fun i w => (∀ x ∈ w, ValidE x) ∧ w.length = s.wait.length + i) s.wait rfl ⟨hs.wv, rfl⟩ htr
    (fun i w a ha hI => ?_) (fun i w a w' ha hI hw' => ?_) (fun w hI => ?_)
  · refine key.mono fun n h z => ?_
    simp only [hpR, bxE] at h
    simp only [J14_7, h1, h4, hoV, hoE, hc0, hc1, hc2, hc3]
    refine (h z).trans ?_
    unfold takeQ
    rw [dw_drop]
  · have hi := lt_of_some ha
    obtain ⟨i1, i2⟩ := hI
    have hla : l[l.length - s.co.length + i]? = some a := by
      have := ha
      rw [hs.co, List.getElem?_drop] at this
      exact this
    have hlt := lt_of_some hla
    unfold tkStep
    by_cases hat : a.at_ = t
    · rw [if_pos hat]
      refine (s41 w a.e (by omega)).mono fun n h z again => ?_
      simp only [Entry.enc] at h
      have hbe : (a.at_ == t) = true := by simpa using hat
      simp only [L14_6, J14_5, hpR, bxE, vI_mk, vB_mk, vS_mk, vL_mk, sVer_mk, sOff_mk, sLen_mk, oVer_mk, oEs_mk, cI_mk, cB_mk, cS_mk, cL_mk, cVer_mk, cOff_mk, cLen_mk, gI_zero, gI_succ, gB_zero, gB_succ, gS_zero, gS_succ, gL_zero, gL_succ, okI_zero, okI_succ, okB_zero, okB_succ, okS_zero, okS_succ, okL_zero, okL_succ, isIntT_int, isBoolT_bool, isStrT_str, isSlT_sl, intOf_int, boolOf_bool, strOf_str, slOf_sl, treeOf_t, srVer_sref, srOff_sref, srLen_sref, ver_row, esOf_row, cellOf_box, aI_mk, aB_mk, aS_mk, aL_mk, aggOf_agg, join_eq, List.getD_cons_zero, List.getD_cons_succ, decide_true, decide_false, cnd_true, cnd_false, true_and, and_true, false_and, and_false, Option.bind_some, Option.bind_none, List.length_cons, List.length_nil, List.length_map, List.getElem?_map, Option.map_some, Option.map_none, Int.toNat_natCast, reduceCtorEq, eq_self, if_true, if_false, Nat.zero_add, Nat.reduceAdd, Nat.reduceEqDiff, Int.natCast_nonneg, List.drop_zero, or_true, true_or, or_false, false_or, Bool.not_true, Bool.not_false, Bool.false_eq_true, decide_eq_true_eq, ge_iff_le, gt_iff_lt, (show ((l.length - s.co.length + i : Nat) : Int) < (l.length : Int) by omega), hla, Arr.enc, h2, hbe, h, Rd.go_next, w64_succ (show l.length - s.co.length + i < 4611686018427387904 by omega)]
      rw [show l.length - s.co.length + (i + 1) = l.length - s.co.length + i + 1 by omega]
    · rw [if_neg hat]
      refine (hstate i w (by omega) i1 i2).mono fun n h z again => ?_
      have hbe : (a.at_ == t) = false := by simpa using hat
      have h' := h again z
      simp only [hpR, bxE] at h'
      simp only [L14_6, hpR, bxE, vI_mk, vB_mk, vS_mk, vL_mk, sVer_mk, sOff_mk, sLen_mk, oVer_mk, oEs_mk, cI_mk, cB_mk, cS_mk, cL_mk, cVer_mk, cOff_mk, cLen_mk, gI_zero, gI_succ, gB_zero, gB_succ, gS_zero, gS_succ, gL_zero, gL_succ, okI_zero, okI_succ, okB_zero, okB_succ, okS_zero, okS_succ, okL_zero, okL_succ, isIntT_int, isBoolT_bool, isStrT_str, isSlT_sl, intOf_int, boolOf_bool, strOf_str, slOf_sl, treeOf_t, srVer_sref, srOff_sref, srLen_sref, ver_row, esOf_row, cellOf_box, aI_mk, aB_mk, aS_mk, aL_mk, aggOf_agg, join_eq, List.getD_cons_zero, List.getD_cons_succ, decide_true, decide_false, cnd_true, cnd_false, true_and, and_true, false_and, and_false, Option.bind_some, Option.bind_none, List.length_cons, List.length_nil, List.length_map, List.getElem?_map, Option.map_some, Option.map_none, Int.toNat_natCast, reduceCtorEq, eq_self, if_true, if_false, Nat.zero_add, Nat.reduceAdd, Nat.reduceEqDiff, Int.natCast_nonneg, List.drop_zero, or_true, true_or, or_false, false_or, Bool.not_true, Bool.not_false, Bool.false_eq_true, decide_eq_true_eq, ge_iff_le, gt_iff_lt, (show ((l.length - s.co.length + i : Nat) : Int) < (l.length : Int) by omega), hla, Arr.enc, h2, hbe, Rd.go_done]
      exact h'
  · have hi := lt_of_some ha
    obtain ⟨i1, i2⟩ := hI
    unfold tkStep at hw'
    split at hw'
    · simp only [Rd.next.injEq] at hw'
      subst hw'
      refine ⟨fun x hx => ?_, by rw [insQ, insB_len, i2]; rfl⟩
      rcases (insB_mem _ _ _ _).1 hx with rfl | hx
      · have : a ∈ s.co := List.mem_of_getElem? ha
        rw [hs.co] at this
        exact (hg.val a (List.mem_of_mem_drop this)).2
      · exact i1 x hx
    · cases hw'
  · obtain ⟨i1, i2⟩ := hI
    refine (hstate s.co.length w (Nat.le_refl _) i1 i2).mono fun n h z again => ?_
    have h' := h again z
    have e1 : l.length - s.co.length + s.co.length = l.length := by omega
    rw [e1] at h' ⊢
    simp only [hpR, bxE] at h'
    simp only [L14_6, hpR, bxE, vI_mk, vB_mk, vS_mk, vL_mk, sVer_mk, sOff_mk, sLen_mk, oVer_mk, oEs_mk, cI_mk, cB_mk, cS_mk, cL_mk, cVer_mk, cOff_mk, cLen_mk, gI_zero, gI_succ, gB_zero, gB_succ, gS_zero, gS_succ, gL_zero, gL_succ, okI_zero, okI_succ, okB_zero, okB_succ, okS_zero, okS_succ, okL_zero, okL_succ, isIntT_int, isBoolT_bool, isStrT_str, isSlT_sl, intOf_int, boolOf_bool, strOf_str, slOf_sl, treeOf_t, srVer_sref, srOff_sref, srLen_sref, ver_row, esOf_row, cellOf_box, aI_mk, aB_mk, aS_mk, aL_mk, aggOf_agg, join_eq, List.getD_cons_zero, List.getD_cons_succ, decide_true, decide_false, cnd_true, cnd_false, true_and, and_true, false_and, and_false, Option.bind_some, Option.bind_none, List.length_cons, List.length_nil, List.length_map, List.getElem?_map, Option.map_some, Option.map_none, Int.toNat_natCast, reduceCtorEq, eq_self, if_true, if_false, Nat.zero_add, Nat.reduceAdd, Nat.reduceEqDiff, Int.natCast_nonneg, List.drop_zero, or_true, true_or, or_false, false_or, Bool.not_true, Bool.not_false, Bool.false_eq_true, decide_eq_true_eq, ge_iff_le, gt_iff_lt, Int.lt_irrefl]
    exact h'
end Ab
