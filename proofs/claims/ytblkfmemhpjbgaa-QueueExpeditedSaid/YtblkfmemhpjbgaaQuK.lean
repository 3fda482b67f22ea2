/- Queue: Serve of the program: interruptions, what expires. -/
import Derived.Test.YtblkfmemhpjbgaaQuJ
set_option linter.unusedVariables false
set_option linter.unusedSimpArgs false
set_option maxHeartbeats 1000000
namespace Ab
open Go


def zE : List Tree := [tI 0, tI 0, tI 0, tI 0]
theorem rowFin {es : List Entry} {ex : List (List Tree)} {i L : Nat} (h : es.length = L) (hi : i ≤ L) : rowSet (es.map Entry.enc ++ ex) i (List.replicate (L - i) zE) = (es.take i).map Entry.enc ++ (List.replicate (L - i) zE ++ ex) := by
  unfold rowSet
  rw [List.length_replicate, show i + (L - i) = L by omega, List.take_append_of_le_length (by simp; omega), List.drop_append, List.drop_eq_nil_of_le (by simp; omega), List.length_map, h, Nat.sub_self, List.drop_zero, List.nil_append, List.map_take, List.append_assoc]
theorem fresh_eq (l : List Entry) (t : Int) : freshQ l t = l.filter fun x => !decide (x.exp ≤ t) := by
  unfold freshQ
  congr 1
  funext x
  have : x.exp > t ↔ ¬ x.exp ≤ t := by omega
  rw [decide_eq_decide.2 this, decide_not]
/-- What expires behind an interruption. -/
theorem x2 {rate t : Int} (s : QS) (v : Nat) (es : List (List Tree)) (hl : s.wait.length ≤ 64) (p6 : List AV × Heap) (h6 : vI p6 0 = t) :
    ∃ es', Holds (freshQ (s.wait ++ [s.now]) t) es' ∧ Ev fun n => ∀ z, loopIter (fun p again => L13_11 n ([.t (.bool true)], hP1 rate s v es) p6 (fun q => J13_14 n z ([.t (.bool true)], hP1 rate s v es) p6 q) p again) n ([.t (tI 0)], hP1 rate { s with busy := false, wait := s.wait ++ [s.now] } (v + 1) ((s.wait ++ [s.now]).map Entry.enc))
      = z ([], hP1 rate { s with busy := false, wait := freshQ (s.wait ++ [s.now]) t } (v + 1) es') := by
  have hWl : (s.wait ++ [s.now]).length = s.wait.length + 1 := by simp
  have k1 := loop_overZ (R := List Tree) (Z := List AV × Heap → Option (List Tree)) (B := fun n z p again => L13_11 n ([.t (.bool true)], hP1 rate s v es) p6 z p again) (s := (([.t (tI 0)], hP1 rate { s with busy := false, wait := s.wait ++ [s.now] } (v + 1) ((s.wait ++ [s.now]).map Entry.enc)) : List AV × Heap)) (s.wait ++ [s.now])
    (fun i (_ : Unit) => (([.t (tI i)], hP1 rate { s with busy := false, wait := s.wait ++ [s.now] } (v + 1) ((s.wait ++ [s.now]).map Entry.enc)) : List AV × Heap))
    (fun i _ x => if decide (x.exp ≤ t) = true then .done (i : Int) else .next ()) (fun _ => -1) (fun z (q : Int) => z ([.t (tI q)], hP1 rate { s with busy := false, wait := s.wait ++ [s.now] } (v + 1) ((s.wait ++ [s.now]).map Entry.enc))) (fun _ _ => True) () rfl trivial (find_run0 _ _)
    (fun i u x hx hI => Ev.of fun n z again => ?_) (fun _ _ _ _ _ _ _ => trivial) (fun u hI => Ev.of fun n z again => ?_)
  · rw [fresh_eq]
    generalize s.wait ++ [s.now] = W at hWl k1 ⊢
    rcases idx_cases (fun x : Entry => decide (x.exp ≤ t)) W with ⟨hi, hn⟩ | ⟨i, x, hi, hx, hp, hb⟩
    · rw [hi] at k1
      have e2 : W.filter (fun x => !decide (x.exp ≤ t)) = W := filter_none fun j y _ hy => hn y (List.mem_of_getElem? hy)
      rw [e2]
      refine ⟨W.map Entry.enc, Holds.self _, k1.mono fun n h z => ?_⟩
      rw [h]
      simp only [J13_14, hP1, bxS, vI_mk, vB_mk, vS_mk, vL_mk, sVer_mk, sOff_mk, sLen_mk, oVer_mk, oEs_mk, cI_mk, cB_mk, cS_mk, cL_mk, cVer_mk, cOff_mk, cLen_mk, gI_zero, gI_succ, gB_zero, gB_succ, gS_zero, gS_succ, gL_zero, gL_succ, okI_zero, okI_succ, okB_zero, okB_succ, okS_zero, okS_succ, okL_zero, okL_succ, isIntT_int, isBoolT_bool, isStrT_str, isSlT_sl, intOf_int, boolOf_bool, strOf_str, slOf_sl, treeOf_t, srVer_sref, srOff_sref, srLen_sref, ver_row, esOf_row, cellOf_box, aI_mk, aB_mk, aS_mk, aL_mk, aggOf_agg, join_eq, List.getD_cons_zero, List.getD_cons_succ, decide_true, decide_false, cnd_true, cnd_false, true_and, and_true, false_and, and_false, Option.bind_some, Option.bind_none, List.length_cons, List.length_nil, List.length_map, List.getElem?_map, Option.map_some, Option.map_none, Int.toNat_natCast, reduceCtorEq, eq_self, if_true, if_false, Nat.zero_add, Nat.reduceAdd, Nat.reduceEqDiff, Int.natCast_nonneg, List.drop_zero, or_true, true_or, or_false, false_or, Bool.not_true, Bool.not_false, Bool.false_eq_true, decide_eq_true_eq, ge_iff_le, gt_iff_lt, beq_self_eq_true, hWl]
    · rw [hi] at k1
      have hil := lt_of_some hx
      refine ⟨(W.filter (fun x => !decide (x.exp ≤ t))).map Entry.enc ++ List.replicate (W.length - (W.filter (fun x => !decide (x.exp ≤ t))).length) zE, ⟨_, rfl⟩, ?_⟩
      have k2 := del_overZ (R := List Tree) (Z := List AV × Heap → Option (List Tree)) (B := fun n z p again => L13_13 n ([.t (.bool true)], hP1 rate s v es) p6 z p again)
        (fun z (r : List Entry) => z ([], hP1 rate { s with busy := false, wait := r } (v + 1) (r.map Entry.enc ++ List.replicate (W.length - r.length) zE))) (fun x => decide (x.exp ≤ t)) W
        (fun (d : DS Entry) => (([.t (tI d.i), .t (tI d.j)], hP1 rate { s with busy := false, wait := W } (v + 1) (d.es.map Entry.enc)) : List AV × Heap)) ⟨i, i + 1, W⟩ rfl (DInv.start hx hp hb) (fun d hD => Ev.of fun n z again => ?_)
      · refine (k1.and k2).mono fun n h z => ?_
        rw [h.1]
        have h2 := h.2 z
        simp only [hP1, bxS] at h2
        simp only [J13_14, hP1, bxS, vI_mk, vB_mk, vS_mk, vL_mk, sVer_mk, sOff_mk, sLen_mk, oVer_mk, oEs_mk, cI_mk, cB_mk, cS_mk, cL_mk, cVer_mk, cOff_mk, cLen_mk, gI_zero, gI_succ, gB_zero, gB_succ, gS_zero, gS_succ, gL_zero, gL_succ, okI_zero, okI_succ, okB_zero, okB_succ, okS_zero, okS_succ, okL_zero, okL_succ, isIntT_int, isBoolT_bool, isStrT_str, isSlT_sl, intOf_int, boolOf_bool, strOf_str, slOf_sl, treeOf_t, srVer_sref, srOff_sref, srLen_sref, ver_row, esOf_row, cellOf_box, aI_mk, aB_mk, aS_mk, aL_mk, aggOf_agg, join_eq, List.getD_cons_zero, List.getD_cons_succ, decide_true, decide_false, cnd_true, cnd_false, true_and, and_true, false_and, and_false, Option.bind_some, Option.bind_none, List.length_cons, List.length_nil, List.length_map, List.getElem?_map, Option.map_some, Option.map_none, Int.toNat_natCast, reduceCtorEq, eq_self, if_true, if_false, Nat.zero_add, Nat.reduceAdd, Nat.reduceEqDiff, Int.natCast_nonneg, List.drop_zero, or_true, true_or, or_false, false_or, Bool.not_true, Bool.not_false, Bool.false_eq_true, decide_eq_true_eq, ge_iff_le, gt_iff_lt, (show (((i : Nat) : Int) == -1) = false by simp), w64_succ (show i < 4611686018427387904 by omega)]
        exact h2
      · have hat := hD.at
        obtain ⟨i', j, es1⟩ := d
        obtain ⟨d1, d2, d3, d4, d5⟩ := hD
        simp only at d1 d2 d3 d4 d5 hat
        unfold dstep
        simp only
        cases hy : W[j]? with
        | none =>
          have hj : W.length ≤ j := by simpa using hy
          have hrf := rowFin (ex := []) (i := i') d3 (by omega)
          simp only [List.append_nil] at hrf
          have htl : (es1.take i').length = i' := by simp; omega
          have hlen2 : (rowSet (es1.map Entry.enc) i' (List.replicate (W.length - i') zE)).length = W.length := by rw [hrf]; simp; omega
          simp only [zE] at hrf hlen2
          simp only [L13_13, hP1, bxS, vI_mk, vB_mk, vS_mk, vL_mk, sVer_mk, sOff_mk, sLen_mk, oVer_mk, oEs_mk, cI_mk, cB_mk, cS_mk, cL_mk, cVer_mk, cOff_mk, cLen_mk, gI_zero, gI_succ, gB_zero, gB_succ, gS_zero, gS_succ, gL_zero, gL_succ, okI_zero, okI_succ, okB_zero, okB_succ, okS_zero, okS_succ, okL_zero, okL_succ, isIntT_int, isBoolT_bool, isStrT_str, isSlT_sl, intOf_int, boolOf_bool, strOf_str, slOf_sl, treeOf_t, srVer_sref, srOff_sref, srLen_sref, ver_row, esOf_row, cellOf_box, aI_mk, aB_mk, aS_mk, aL_mk, aggOf_agg, join_eq, List.getD_cons_zero, List.getD_cons_succ, decide_true, decide_false, cnd_true, cnd_false, true_and, and_true, false_and, and_false, Option.bind_some, Option.bind_none, List.length_cons, List.length_nil, List.length_map, List.getElem?_map, Option.map_some, Option.map_none, Int.toNat_natCast, reduceCtorEq, eq_self, if_true, if_false, Nat.zero_add, Nat.reduceAdd, Nat.reduceEqDiff, Int.natCast_nonneg, List.drop_zero, or_true, true_or, or_false, false_or, Bool.not_true, Bool.not_false, Bool.false_eq_true, decide_eq_true_eq, ge_iff_le, gt_iff_lt, ← hWl, (show ¬ (j : Int) < (W.length : Int) by omega), d3, (show (i' : Int) ≤ (W.length : Int) by omega), (show i' < W.length by omega), hlen2, (show 0 < W.length by omega), Rd.go_done, htl, zE]
          rw [hrf]
        | some y =>
          have hj := lt_of_some hy
          have hi2 : es1[i']? = some es1[i'] := List.getElem?_eq_getElem (by omega)
          have hset : List.set (es1.map Entry.enc) i' y.enc = (es1.set i' y).map Entry.enc := by rw [← List.map_set]
          simp only [Entry.enc] at hset
          simp only [L13_13, J13_12, hP1, bxS, vI_mk, vB_mk, vS_mk, vL_mk, sVer_mk, sOff_mk, sLen_mk, oVer_mk, oEs_mk, cI_mk, cB_mk, cS_mk, cL_mk, cVer_mk, cOff_mk, cLen_mk, gI_zero, gI_succ, gB_zero, gB_succ, gS_zero, gS_succ, gL_zero, gL_succ, okI_zero, okI_succ, okB_zero, okB_succ, okS_zero, okS_succ, okL_zero, okL_succ, isIntT_int, isBoolT_bool, isStrT_str, isSlT_sl, intOf_int, boolOf_bool, strOf_str, slOf_sl, treeOf_t, srVer_sref, srOff_sref, srLen_sref, ver_row, esOf_row, cellOf_box, aI_mk, aB_mk, aS_mk, aL_mk, aggOf_agg, join_eq, List.getD_cons_zero, List.getD_cons_succ, decide_true, decide_false, cnd_true, cnd_false, true_and, and_true, false_and, and_false, Option.bind_some, Option.bind_none, List.length_cons, List.length_nil, List.length_map, List.getElem?_map, Option.map_some, Option.map_none, Int.toNat_natCast, reduceCtorEq, eq_self, if_true, if_false, Nat.zero_add, Nat.reduceAdd, Nat.reduceEqDiff, Int.natCast_nonneg, List.drop_zero, or_true, true_or, or_false, false_or, Bool.not_true, Bool.not_false, Bool.false_eq_true, decide_eq_true_eq, ge_iff_le, gt_iff_lt, ← hWl, (show (j : Int) < (W.length : Int) by omega), hat, hy, hi2, Entry.enc, h6, (show (i' : Int) < (W.length : Int) by omega), Nat.le_refl, w64_succ (show i' < 4611686018427387904 by omega), w64_succ (show j < 4611686018427387904 by omega), List.drop_succ_cons, List.append_nil, List.drop_nil, List.cons_append, List.nil_append]
          by_cases hpy : y.exp ≤ t
          · simp only [hpy, vI_mk, vB_mk, vS_mk, vL_mk, sVer_mk, sOff_mk, sLen_mk, oVer_mk, oEs_mk, cI_mk, cB_mk, cS_mk, cL_mk, cVer_mk, cOff_mk, cLen_mk, gI_zero, gI_succ, gB_zero, gB_succ, gS_zero, gS_succ, gL_zero, gL_succ, okI_zero, okI_succ, okB_zero, okB_succ, okS_zero, okS_succ, okL_zero, okL_succ, isIntT_int, isBoolT_bool, isStrT_str, isSlT_sl, intOf_int, boolOf_bool, strOf_str, slOf_sl, treeOf_t, srVer_sref, srOff_sref, srLen_sref, ver_row, esOf_row, cellOf_box, aI_mk, aB_mk, aS_mk, aL_mk, aggOf_agg, join_eq, List.getD_cons_zero, List.getD_cons_succ, decide_true, decide_false, cnd_true, cnd_false, true_and, and_true, false_and, and_false, Option.bind_some, Option.bind_none, List.length_cons, List.length_nil, List.length_map, List.getElem?_map, Option.map_some, Option.map_none, Int.toNat_natCast, reduceCtorEq, eq_self, if_true, if_false, Nat.zero_add, Nat.reduceAdd, Nat.reduceEqDiff, Int.natCast_nonneg, List.drop_zero, or_true, true_or, or_false, false_or, Bool.not_true, Bool.not_false, Bool.false_eq_true, decide_eq_true_eq, ge_iff_le, gt_iff_lt, Rd.go_next]
          · simp only [hpy, vI_mk, vB_mk, vS_mk, vL_mk, sVer_mk, sOff_mk, sLen_mk, oVer_mk, oEs_mk, cI_mk, cB_mk, cS_mk, cL_mk, cVer_mk, cOff_mk, cLen_mk, gI_zero, gI_succ, gB_zero, gB_succ, gS_zero, gS_succ, gL_zero, gL_succ, okI_zero, okI_succ, okB_zero, okB_succ, okS_zero, okS_succ, okL_zero, okL_succ, isIntT_int, isBoolT_bool, isStrT_str, isSlT_sl, intOf_int, boolOf_bool, strOf_str, slOf_sl, treeOf_t, srVer_sref, srOff_sref, srLen_sref, ver_row, esOf_row, cellOf_box, aI_mk, aB_mk, aS_mk, aL_mk, aggOf_agg, join_eq, List.getD_cons_zero, List.getD_cons_succ, decide_true, decide_false, cnd_true, cnd_false, true_and, and_true, false_and, and_false, Option.bind_some, Option.bind_none, List.length_cons, List.length_nil, List.length_map, List.getElem?_map, Option.map_some, Option.map_none, Int.toNat_natCast, reduceCtorEq, eq_self, if_true, if_false, Nat.zero_add, Nat.reduceAdd, Nat.reduceEqDiff, Int.natCast_nonneg, List.drop_zero, or_true, true_or, or_false, false_or, Bool.not_true, Bool.not_false, Bool.false_eq_true, decide_eq_true_eq, ge_iff_le, gt_iff_lt, Rd.go_next, hset]
  · have hi := lt_of_some hx
    have hx2 : ((s.wait ++ [s.now]).map Entry.enc)[i]? = some x.enc := by rw [List.getElem?_map, hx]; rfl
    simp only [Entry.enc] at hx2
    have hi3 : (i : Int) < ((s.wait.length + 1 : Nat) : Int) := by omega
    simp only [L13_11, hP1, bxS, vI_mk, vB_mk, vS_mk, vL_mk, sVer_mk, sOff_mk, sLen_mk, oVer_mk, oEs_mk, cI_mk, cB_mk, cS_mk, cL_mk, cVer_mk, cOff_mk, cLen_mk, gI_zero, gI_succ, gB_zero, gB_succ, gS_zero, gS_succ, gL_zero, gL_succ, okI_zero, okI_succ, okB_zero, okB_succ, okS_zero, okS_succ, okL_zero, okL_succ, isIntT_int, isBoolT_bool, isStrT_str, isSlT_sl, intOf_int, boolOf_bool, strOf_str, slOf_sl, treeOf_t, srVer_sref, srOff_sref, srLen_sref, ver_row, esOf_row, cellOf_box, aI_mk, aB_mk, aS_mk, aL_mk, aggOf_agg, join_eq, List.getD_cons_zero, List.getD_cons_succ, decide_true, decide_false, cnd_true, cnd_false, true_and, and_true, false_and, and_false, Option.bind_some, Option.bind_none, List.length_cons, List.length_nil, List.length_map, List.getElem?_map, Option.map_some, Option.map_none, Int.toNat_natCast, reduceCtorEq, eq_self, if_true, if_false, Nat.zero_add, Nat.reduceAdd, Nat.reduceEqDiff, Int.natCast_nonneg, List.drop_zero, or_true, true_or, or_false, false_or, Bool.not_true, Bool.not_false, Bool.false_eq_true, decide_eq_true_eq, ge_iff_le, gt_iff_lt, hi3, hx, hx2, Entry.enc, h6, w64_succ (show i < 4611686018427387904 by omega)]
    by_cases h : x.exp ≤ t
    · simp only [h, vI_mk, vB_mk, vS_mk, vL_mk, sVer_mk, sOff_mk, sLen_mk, oVer_mk, oEs_mk, cI_mk, cB_mk, cS_mk, cL_mk, cVer_mk, cOff_mk, cLen_mk, gI_zero, gI_succ, gB_zero, gB_succ, gS_zero, gS_succ, gL_zero, gL_succ, okI_zero, okI_succ, okB_zero, okB_succ, okS_zero, okS_succ, okL_zero, okL_succ, isIntT_int, isBoolT_bool, isStrT_str, isSlT_sl, intOf_int, boolOf_bool, strOf_str, slOf_sl, treeOf_t, srVer_sref, srOff_sref, srLen_sref, ver_row, esOf_row, cellOf_box, aI_mk, aB_mk, aS_mk, aL_mk, aggOf_agg, join_eq, List.getD_cons_zero, List.getD_cons_succ, decide_true, decide_false, cnd_true, cnd_false, true_and, and_true, false_and, and_false, Option.bind_some, Option.bind_none, List.length_cons, List.length_nil, List.length_map, List.getElem?_map, Option.map_some, Option.map_none, Int.toNat_natCast, reduceCtorEq, eq_self, if_true, if_false, Nat.zero_add, Nat.reduceAdd, Nat.reduceEqDiff, Int.natCast_nonneg, List.drop_zero, or_true, true_or, or_false, false_or, Bool.not_true, Bool.not_false, Bool.false_eq_true, decide_eq_true_eq, ge_iff_le, gt_iff_lt, Rd.go_done]
    · simp only [h, vI_mk, vB_mk, vS_mk, vL_mk, sVer_mk, sOff_mk, sLen_mk, oVer_mk, oEs_mk, cI_mk, cB_mk, cS_mk, cL_mk, cVer_mk, cOff_mk, cLen_mk, gI_zero, gI_succ, gB_zero, gB_succ, gS_zero, gS_succ, gL_zero, gL_succ, okI_zero, okI_succ, okB_zero, okB_succ, okS_zero, okS_succ, okL_zero, okL_succ, isIntT_int, isBoolT_bool, isStrT_str, isSlT_sl, intOf_int, boolOf_bool, strOf_str, slOf_sl, treeOf_t, srVer_sref, srOff_sref, srLen_sref, ver_row, esOf_row, cellOf_box, aI_mk, aB_mk, aS_mk, aL_mk, aggOf_agg, join_eq, List.getD_cons_zero, List.getD_cons_succ, decide_true, decide_false, cnd_true, cnd_false, true_and, and_true, false_and, and_false, Option.bind_some, Option.bind_none, List.length_cons, List.length_nil, List.length_map, List.getElem?_map, Option.map_some, Option.map_none, Int.toNat_natCast, reduceCtorEq, eq_self, if_true, if_false, Nat.zero_add, Nat.reduceAdd, Nat.reduceEqDiff, Int.natCast_nonneg, List.drop_zero, or_true, true_or, or_false, false_or, Bool.not_true, Bool.not_false, Bool.false_eq_true, decide_eq_true_eq, ge_iff_le, gt_iff_lt, Rd.go_next]
  · simp only [L13_11, hP1, bxS, vI_mk, vB_mk, vS_mk, vL_mk, sVer_mk, sOff_mk, sLen_mk, oVer_mk, oEs_mk, cI_mk, cB_mk, cS_mk, cL_mk, cVer_mk, cOff_mk, cLen_mk, gI_zero, gI_succ, gB_zero, gB_succ, gS_zero, gS_succ, gL_zero, gL_succ, okI_zero, okI_succ, okB_zero, okB_succ, okS_zero, okS_succ, okL_zero, okL_succ, isIntT_int, isBoolT_bool, isStrT_str, isSlT_sl, intOf_int, boolOf_bool, strOf_str, slOf_sl, treeOf_t, srVer_sref, srOff_sref, srLen_sref, ver_row, esOf_row, cellOf_box, aI_mk, aB_mk, aS_mk, aL_mk, aggOf_agg, join_eq, List.getD_cons_zero, List.getD_cons_succ, decide_true, decide_false, cnd_true, cnd_false, true_and, and_true, false_and, and_false, Option.bind_some, Option.bind_none, List.length_cons, List.length_nil, List.length_map, List.getElem?_map, Option.map_some, Option.map_none, Int.toNat_natCast, reduceCtorEq, eq_self, if_true, if_false, Nat.zero_add, Nat.reduceAdd, Nat.reduceEqDiff, Int.natCast_nonneg, List.drop_zero, or_true, true_or, or_false, false_or, Bool.not_true, Bool.not_false, Bool.false_eq_true, decide_eq_true_eq, ge_iff_le, gt_iff_lt, hWl, Int.lt_irrefl]
/-- Interruptions. -/
theorem p4 (l : List Arr) (hl : l.length ≤ 64) {rate : Int} (hr : 1 ≤ rate ∧ rate ≤ 1000) {t : Int} (ht : 0 ≤ t ∧ t ≤ 1099520016384) (s : QS) (hs : QMid l s) (v : Nat) (es : List (List Tree)) (he : Holds s.wait es) (p6 : List AV × Heap) (h6 : vI p6 0 = t) :
    ∃ v' es', Holds (begP rate t (preP t s)).wait es' ∧ Ev fun n => ∀ z, J13_23 n z p6 ([], hP1 rate s v es) = z ([], hP rate (begP rate t (preP t s)) v' es') := by
  have hwl := hs.wl
  cases hb : s.busy with
  | false =>
    have : preP t s = s := by unfold preP; rw [if_neg (by simp [hb])]
    rw [this]
    obtain ⟨v', es', q1, q2⟩ := p5 l hl hr ht s hs v es he p6 h6
    refine ⟨v', es', q1, q2.mono fun n h z => ?_⟩
    have h' := h z
    simp only [hP1, bxS, hb] at h'
    simp only [J13_23, J13_22, hP1, bxS, hb, vI_mk, vB_mk, vS_mk, vL_mk, sVer_mk, sOff_mk, sLen_mk, oVer_mk, oEs_mk, cI_mk, cB_mk, cS_mk, cL_mk, cVer_mk, cOff_mk, cLen_mk, gI_zero, gI_succ, gB_zero, gB_succ, gS_zero, gS_succ, gL_zero, gL_succ, okI_zero, okI_succ, okB_zero, okB_succ, okS_zero, okS_succ, okL_zero, okL_succ, isIntT_int, isBoolT_bool, isStrT_str, isSlT_sl, intOf_int, boolOf_bool, strOf_str, slOf_sl, treeOf_t, srVer_sref, srOff_sref, srLen_sref, ver_row, esOf_row, cellOf_box, aI_mk, aB_mk, aS_mk, aL_mk, aggOf_agg, join_eq, List.getD_cons_zero, List.getD_cons_succ, decide_true, decide_false, cnd_true, cnd_false, true_and, and_true, false_and, and_false, Option.bind_some, Option.bind_none, List.length_cons, List.length_nil, List.length_map, List.getElem?_map, Option.map_some, Option.map_none, Int.toNat_natCast, reduceCtorEq, eq_self, if_true, if_false, Nat.zero_add, Nat.reduceAdd, Nat.reduceEqDiff, Int.natCast_nonneg, List.drop_zero, or_true, true_or, or_false, false_or, Bool.not_true, Bool.not_false, Bool.false_eq_true, decide_eq_true_eq, ge_iff_le, gt_iff_lt]
    exact h'
  | true =>
    have k1 := loop_overZ (R := List Tree) (Z := List AV × Heap → Option (List Tree)) (B := fun n z p again => L13_8 n ([], hP1 rate s v es) z p again) (s := (([.t (tI 0)], hP1 rate s v es) : List AV × Heap)) s.wait
      (fun i (_ : Unit) => (([.t (tI i)], hP1 rate s v es) : List AV × Heap))
      (fun i _ x => if decide (pre x s.now) = true then .done (i : Int) else .next ()) (fun _ => -1) (fun z (q : Int) => z ([.t (tI q)], hP1 rate s v es)) (fun _ _ => True) () rfl trivial (find_run0 _ _)
      (fun i u x hx hI => ?_) (fun _ _ _ _ _ _ _ => trivial) (fun u hI => Ev.of fun n z again => ?_)
    · have hix := idx_nonneg (fun x : Entry => decide (pre x s.now)) s.wait
      cases ha : (s.wait.any fun x => decide (pre x s.now)) with
      | false =>
        have : preP t s = s := by unfold preP; rw [if_neg (by simp [ha])]
        rw [this]
        obtain ⟨v', es', q1, q2⟩ := p5 l hl hr ht s hs v es he p6 h6
        refine ⟨v', es', q1, (k1.and q2).mono fun n h z => ?_⟩
        have h2 := h.2 z
        have h1 := h.1
        have hn : ¬ 0 ≤ idx (fun x : Entry => decide (pre x s.now)) s.wait := fun hh => by rw [hix.1 hh] at ha; cases ha
        simp only [hP1, bxS, hb] at h1 h2
        simp only [J13_23, J13_22, J13_10, J13_9, hP1, bxS, hb, vI_mk, vB_mk, vS_mk, vL_mk, sVer_mk, sOff_mk, sLen_mk, oVer_mk, oEs_mk, cI_mk, cB_mk, cS_mk, cL_mk, cVer_mk, cOff_mk, cLen_mk, gI_zero, gI_succ, gB_zero, gB_succ, gS_zero, gS_succ, gL_zero, gL_succ, okI_zero, okI_succ, okB_zero, okB_succ, okS_zero, okS_succ, okL_zero, okL_succ, isIntT_int, isBoolT_bool, isStrT_str, isSlT_sl, intOf_int, boolOf_bool, strOf_str, slOf_sl, treeOf_t, srVer_sref, srOff_sref, srLen_sref, ver_row, esOf_row, cellOf_box, aI_mk, aB_mk, aS_mk, aL_mk, aggOf_agg, join_eq, List.getD_cons_zero, List.getD_cons_succ, decide_true, decide_false, cnd_true, cnd_false, true_and, and_true, false_and, and_false, Option.bind_some, Option.bind_none, List.length_cons, List.length_nil, List.length_map, List.getElem?_map, Option.map_some, Option.map_none, Int.toNat_natCast, reduceCtorEq, eq_self, if_true, if_false, Nat.zero_add, Nat.reduceAdd, Nat.reduceEqDiff, Int.natCast_nonneg, List.drop_zero, or_true, true_or, or_false, false_or, Bool.not_true, Bool.not_false, Bool.false_eq_true, decide_eq_true_eq, ge_iff_le, gt_iff_lt, h1, hn]
        exact h2
      | true =>
        have hpre : preP t s = { s with busy := false, wait := freshQ (s.wait ++ [s.now]) t } := by unfold preP; rw [if_pos ⟨hb, ha⟩]
        rw [hpre]
        have hmid : QMid l { s with busy := false, wait := freshQ (s.wait ++ [s.now]) t } := by
          refine ⟨hs.co, hs.out, ?_, fun x hx => ?_, fun h => by cases h⟩
          · have := fresh_len (s.wait ++ [s.now]) t
            rw [hb] at hwl
            simp only [List.length_append, List.length_cons, List.length_nil, Bool.toNat_true, Bool.toNat_false] at *
            omega
          · have := (List.mem_filter.1 hx).1
            rw [List.mem_append, List.mem_singleton] at this
            rcases this with h | rfl
            · exact hs.wv x h
            · exact hs.nv hb
        obtain ⟨es1, q1, q2⟩ := x2 (rate := rate) s v es (by omega) p6 h6
        obtain ⟨v', es', q3, q4⟩ := p5 l hl hr ht _ hmid (v + 1) es1 q1 p6 h6
        refine ⟨v', es', q3, (k1.and (q2.and q4)).mono fun n h z => ?_⟩
        obtain ⟨h1, h2, h3⟩ := h
        have hn : 0 ≤ idx (fun x : Entry => decide (pre x s.now)) s.wait := hix.2 ha
        have h3' := h3 z
        have h2' := h2 fun p63 => J13_15 n (fun p61 => J13_21 n z p6 p61) p63
        have htk := he.take
        simp only [hP1, bxS, hb] at h1 h2' h3'
        simp only [J13_23, J13_22, J13_10, J13_9, hP1, bxS, hb, vI_mk, vB_mk, vS_mk, vL_mk, sVer_mk, sOff_mk, sLen_mk, oVer_mk, oEs_mk, cI_mk, cB_mk, cS_mk, cL_mk, cVer_mk, cOff_mk, cLen_mk, gI_zero, gI_succ, gB_zero, gB_succ, gS_zero, gS_succ, gL_zero, gL_succ, okI_zero, okI_succ, okB_zero, okB_succ, okS_zero, okS_succ, okL_zero, okL_succ, isIntT_int, isBoolT_bool, isStrT_str, isSlT_sl, intOf_int, boolOf_bool, strOf_str, slOf_sl, treeOf_t, srVer_sref, srOff_sref, srLen_sref, ver_row, esOf_row, cellOf_box, aI_mk, aB_mk, aS_mk, aL_mk, aggOf_agg, join_eq, List.getD_cons_zero, List.getD_cons_succ, decide_true, decide_false, cnd_true, cnd_false, true_and, and_true, false_and, and_false, Option.bind_some, Option.bind_none, List.length_cons, List.length_nil, List.length_map, List.getElem?_map, Option.map_some, Option.map_none, Int.toNat_natCast, reduceCtorEq, eq_self, if_true, if_false, Nat.zero_add, Nat.reduceAdd, Nat.reduceEqDiff, Int.natCast_nonneg, List.drop_zero, or_true, true_or, or_false, false_or, Bool.not_true, Bool.not_false, Bool.false_eq_true, decide_eq_true_eq, ge_iff_le, gt_iff_lt, h1, hn, he.len, (show s.wait.length + 1 ≤ 1073741824 by omega), htk]
        simp only [List.map_append, List.map_cons, List.map_nil, Entry.enc, List.length_append, List.length_cons, List.length_nil, Nat.zero_add] at h2'
        refine h2'.trans ?_
        simp only [J13_15, vI_mk, vB_mk, vS_mk, vL_mk, sVer_mk, sOff_mk, sLen_mk, oVer_mk, oEs_mk, cI_mk, cB_mk, cS_mk, cL_mk, cVer_mk, cOff_mk, cLen_mk, gI_zero, gI_succ, gB_zero, gB_succ, gS_zero, gS_succ, gL_zero, gL_succ, okI_zero, okI_succ, okB_zero, okB_succ, okS_zero, okS_succ, okL_zero, okL_succ, isIntT_int, isBoolT_bool, isStrT_str, isSlT_sl, intOf_int, boolOf_bool, strOf_str, slOf_sl, treeOf_t, srVer_sref, srOff_sref, srLen_sref, ver_row, esOf_row, cellOf_box, aI_mk, aB_mk, aS_mk, aL_mk, aggOf_agg, join_eq, List.getD_cons_zero, List.getD_cons_succ, decide_true, decide_false, cnd_true, cnd_false, true_and, and_true, false_and, and_false, Option.bind_some, Option.bind_none, List.length_cons, List.length_nil, List.length_map, List.getElem?_map, Option.map_some, Option.map_none, Int.toNat_natCast, reduceCtorEq, eq_self, if_true, if_false, Nat.zero_add, Nat.reduceAdd, Nat.reduceEqDiff, Int.natCast_nonneg, List.drop_zero, or_true, true_or, or_false, false_or, Bool.not_true, Bool.not_false, Bool.false_eq_true, decide_eq_true_eq, ge_iff_le, gt_iff_lt]
        exact h3'
    · have hi := lt_of_some hx
      have g := he.get hx
      refine (s24 x s.now).mono fun n h z again => ?_
      simp only [Entry.enc, List.cons_append, List.nil_append] at h g
      simp only [L13_8, hP1, bxS, vI_mk, vB_mk, vS_mk, vL_mk, sVer_mk, sOff_mk, sLen_mk, oVer_mk, oEs_mk, cI_mk, cB_mk, cS_mk, cL_mk, cVer_mk, cOff_mk, cLen_mk, gI_zero, gI_succ, gB_zero, gB_succ, gS_zero, gS_succ, gL_zero, gL_succ, okI_zero, okI_succ, okB_zero, okB_succ, okS_zero, okS_succ, okL_zero, okL_succ, isIntT_int, isBoolT_bool, isStrT_str, isSlT_sl, intOf_int, boolOf_bool, strOf_str, slOf_sl, treeOf_t, srVer_sref, srOff_sref, srLen_sref, ver_row, esOf_row, cellOf_box, aI_mk, aB_mk, aS_mk, aL_mk, aggOf_agg, join_eq, List.getD_cons_zero, List.getD_cons_succ, decide_true, decide_false, cnd_true, cnd_false, true_and, and_true, false_and, and_false, Option.bind_some, Option.bind_none, List.length_cons, List.length_nil, List.length_map, List.getElem?_map, Option.map_some, Option.map_none, Int.toNat_natCast, reduceCtorEq, eq_self, if_true, if_false, Nat.zero_add, Nat.reduceAdd, Nat.reduceEqDiff, Int.natCast_nonneg, List.drop_zero, or_true, true_or, or_false, false_or, Bool.not_true, Bool.not_false, Bool.false_eq_true, decide_eq_true_eq, ge_iff_le, gt_iff_lt, (show (i : Int) < (s.wait.length : Int) by omega), g, h, w64_succ (show i < 4611686018427387904 by omega)]
      by_cases hpx : pre x s.now
      · have : x.prio = 2 ∧ s.now.prio < 2 := hpx
        simp only [hpx, this, vI_mk, vB_mk, vS_mk, vL_mk, sVer_mk, sOff_mk, sLen_mk, oVer_mk, oEs_mk, cI_mk, cB_mk, cS_mk, cL_mk, cVer_mk, cOff_mk, cLen_mk, gI_zero, gI_succ, gB_zero, gB_succ, gS_zero, gS_succ, gL_zero, gL_succ, okI_zero, okI_succ, okB_zero, okB_succ, okS_zero, okS_succ, okL_zero, okL_succ, isIntT_int, isBoolT_bool, isStrT_str, isSlT_sl, intOf_int, boolOf_bool, strOf_str, slOf_sl, treeOf_t, srVer_sref, srOff_sref, srLen_sref, ver_row, esOf_row, cellOf_box, aI_mk, aB_mk, aS_mk, aL_mk, aggOf_agg, join_eq, List.getD_cons_zero, List.getD_cons_succ, decide_true, decide_false, cnd_true, cnd_false, true_and, and_true, false_and, and_false, Option.bind_some, Option.bind_none, List.length_cons, List.length_nil, List.length_map, List.getElem?_map, Option.map_some, Option.map_none, Int.toNat_natCast, reduceCtorEq, eq_self, if_true, if_false, Nat.zero_add, Nat.reduceAdd, Nat.reduceEqDiff, Int.natCast_nonneg, List.drop_zero, or_true, true_or, or_false, false_or, Bool.not_true, Bool.not_false, Bool.false_eq_true, decide_eq_true_eq, ge_iff_le, gt_iff_lt, Rd.go_done, and_self]
      · have : ¬ (x.prio = 2 ∧ s.now.prio < 2) := hpx
        simp only [hpx, this, vI_mk, vB_mk, vS_mk, vL_mk, sVer_mk, sOff_mk, sLen_mk, oVer_mk, oEs_mk, cI_mk, cB_mk, cS_mk, cL_mk, cVer_mk, cOff_mk, cLen_mk, gI_zero, gI_succ, gB_zero, gB_succ, gS_zero, gS_succ, gL_zero, gL_succ, okI_zero, okI_succ, okB_zero, okB_succ, okS_zero, okS_succ, okL_zero, okL_succ, isIntT_int, isBoolT_bool, isStrT_str, isSlT_sl, intOf_int, boolOf_bool, strOf_str, slOf_sl, treeOf_t, srVer_sref, srOff_sref, srLen_sref, ver_row, esOf_row, cellOf_box, aI_mk, aB_mk, aS_mk, aL_mk, aggOf_agg, join_eq, List.getD_cons_zero, List.getD_cons_succ, decide_true, decide_false, cnd_true, cnd_false, true_and, and_true, false_and, and_false, Option.bind_some, Option.bind_none, List.length_cons, List.length_nil, List.length_map, List.getElem?_map, Option.map_some, Option.map_none, Int.toNat_natCast, reduceCtorEq, eq_self, if_true, if_false, Nat.zero_add, Nat.reduceAdd, Nat.reduceEqDiff, Int.natCast_nonneg, List.drop_zero, or_true, true_or, or_false, false_or, Bool.not_true, Bool.not_false, Bool.false_eq_true, decide_eq_true_eq, ge_iff_le, gt_iff_lt, Rd.go_next]
    · simp only [L13_8, hP1, bxS, vI_mk, vB_mk, vS_mk, vL_mk, sVer_mk, sOff_mk, sLen_mk, oVer_mk, oEs_mk, cI_mk, cB_mk, cS_mk, cL_mk, cVer_mk, cOff_mk, cLen_mk, gI_zero, gI_succ, gB_zero, gB_succ, gS_zero, gS_succ, gL_zero, gL_succ, okI_zero, okI_succ, okB_zero, okB_succ, okS_zero, okS_succ, okL_zero, okL_succ, isIntT_int, isBoolT_bool, isStrT_str, isSlT_sl, intOf_int, boolOf_bool, strOf_str, slOf_sl, treeOf_t, srVer_sref, srOff_sref, srLen_sref, ver_row, esOf_row, cellOf_box, aI_mk, aB_mk, aS_mk, aL_mk, aggOf_agg, join_eq, List.getD_cons_zero, List.getD_cons_succ, decide_true, decide_false, cnd_true, cnd_false, true_and, and_true, false_and, and_false, Option.bind_some, Option.bind_none, List.length_cons, List.length_nil, List.length_map, List.getElem?_map, Option.map_some, Option.map_none, Int.toNat_natCast, reduceCtorEq, eq_self, if_true, if_false, Nat.zero_add, Nat.reduceAdd, Nat.reduceEqDiff, Int.natCast_nonneg, List.drop_zero, or_true, true_or, or_false, false_or, Bool.not_true, Bool.not_false, Bool.false_eq_true, decide_eq_true_eq, ge_iff_le, gt_iff_lt, Int.lt_irrefl]
end Ab
