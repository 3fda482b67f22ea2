/- Queue: Serve of the program: a round. -/
import Derived.Test.YtblkfmemhpjbgaaQuK
set_option linter.unusedVariables false
set_option linter.unusedSimpArgs false
set_option maxHeartbeats 1000000
namespace Ab
open Go


/-- What expires, ahead of interruptions. -/
theorem x1 {rate t : Int} (s : QS) (v : Nat) (es : List (List Tree)) (he : Holds s.wait es) (hl : s.wait.length ≤ 64) (p6 p28 : List AV × Heap) (h6 : vI p6 0 = t) (hp : p28.2 = hP1 rate s v es) :
    ∃ es', Holds (freshQ s.wait t) es' ∧ Ev fun n => ∀ z, loopIter (fun p again => L13_4 n p28 p6 (fun q => J13_7 n z p28 p6 q) p again) n ([.t (tI 0)], hP1 rate s v es)
      = z ([], hP1 rate { s with wait := freshQ s.wait t } v es') := by
  have c1 : cLen p28 4 2 = s.wait.length := by unfold cLen; rw [hp]; rfl
  have c2 : cVer p28 4 2 = v := by unfold cVer; rw [hp]; rfl
  have c3 : cOff p28 4 2 = 0 := by unfold cOff; rw [hp]; rfl
  have k1 := loop_overZ (R := List Tree) (Z := List AV × Heap → Option (List Tree)) (B := fun n z p again => L13_4 n p28 p6 z p again) (s := (([.t (tI 0)], hP1 rate s v es) : List AV × Heap)) s.wait
    (fun i (_ : Unit) => (([.t (tI i)], hP1 rate s v es) : List AV × Heap))
    (fun i _ x => if decide (x.exp ≤ t) = true then .done (i : Int) else .next ()) (fun _ => -1) (fun z (q : Int) => z ([.t (tI q)], hP1 rate s v es)) (fun _ _ => True) () rfl trivial (find_run0 _ _)
    (fun i u x hx hI => Ev.of fun n z again => ?_) (fun _ _ _ _ _ _ _ => trivial) (fun u hI => Ev.of fun n z again => ?_)
  · rw [fresh_eq]
    rcases idx_cases (fun x : Entry => decide (x.exp ≤ t)) s.wait with ⟨hi, hn⟩ | ⟨i, x, hi, hx, hpx, hb⟩
    · rw [hi] at k1
      have e2 : s.wait.filter (fun x => !decide (x.exp ≤ t)) = s.wait := filter_none fun j y _ hy => hn y (List.mem_of_getElem? hy)
      rw [e2]
      refine ⟨es, he, k1.mono fun n h z => ?_⟩
      rw [h]
      simp only [J13_7, hP1, bxS, c1, c2, c3, vI_mk, vB_mk, vS_mk, vL_mk, sVer_mk, sOff_mk, sLen_mk, oVer_mk, oEs_mk, cI_mk, cB_mk, cS_mk, cL_mk, cVer_mk, cOff_mk, cLen_mk, gI_zero, gI_succ, gB_zero, gB_succ, gS_zero, gS_succ, gL_zero, gL_succ, okI_zero, okI_succ, okB_zero, okB_succ, okS_zero, okS_succ, okL_zero, okL_succ, isIntT_int, isBoolT_bool, isStrT_str, isSlT_sl, intOf_int, boolOf_bool, strOf_str, slOf_sl, treeOf_t, srVer_sref, srOff_sref, srLen_sref, ver_row, esOf_row, cellOf_box, aI_mk, aB_mk, aS_mk, aL_mk, aggOf_agg, join_eq, List.getD_cons_zero, List.getD_cons_succ, decide_true, decide_false, cnd_true, cnd_false, true_and, and_true, false_and, and_false, Option.bind_some, Option.bind_none, List.length_cons, List.length_nil, List.length_map, List.getElem?_map, Option.map_some, Option.map_none, Int.toNat_natCast, reduceCtorEq, eq_self, if_true, if_false, Nat.zero_add, Nat.reduceAdd, Nat.reduceEqDiff, Int.natCast_nonneg, List.drop_zero, or_true, true_or, or_false, false_or, Bool.not_true, Bool.not_false, Bool.false_eq_true, decide_eq_true_eq, ge_iff_le, gt_iff_lt, beq_self_eq_true]
    · rw [hi] at k1
      have hil := lt_of_some hx
      obtain ⟨ex, rfl⟩ := he
      refine ⟨(s.wait.filter (fun x => !decide (x.exp ≤ t))).map Entry.enc ++ (List.replicate (s.wait.length - (s.wait.filter (fun x => !decide (x.exp ≤ t))).length) zE ++ ex), ⟨_, rfl⟩, ?_⟩
      have k2 := del_overZ (R := List Tree) (Z := List AV × Heap → Option (List Tree)) (B := fun n z p again => L13_6 n p28 p6 z p again)
        (fun z (r : List Entry) => z ([], hP1 rate { s with wait := r } v (r.map Entry.enc ++ (List.replicate (s.wait.length - r.length) zE ++ ex)))) (fun x => decide (x.exp ≤ t)) s.wait
        (fun (d : DS Entry) => (([.t (tI d.i), .t (tI d.j)], hP1 rate s v (d.es.map Entry.enc ++ ex)) : List AV × Heap)) ⟨i, i + 1, s.wait⟩ rfl (DInv.start hx hpx hb) (fun d hD => Ev.of fun n z again => ?_)
      · refine (k1.and k2).mono fun n h z => ?_
        rw [h.1]
        have h2 := h.2 z
        simp only [hP1, bxS] at h2
        simp only [J13_7, hP1, bxS, c1, c2, c3, vI_mk, vB_mk, vS_mk, vL_mk, sVer_mk, sOff_mk, sLen_mk, oVer_mk, oEs_mk, cI_mk, cB_mk, cS_mk, cL_mk, cVer_mk, cOff_mk, cLen_mk, gI_zero, gI_succ, gB_zero, gB_succ, gS_zero, gS_succ, gL_zero, gL_succ, okI_zero, okI_succ, okB_zero, okB_succ, okS_zero, okS_succ, okL_zero, okL_succ, isIntT_int, isBoolT_bool, isStrT_str, isSlT_sl, intOf_int, boolOf_bool, strOf_str, slOf_sl, treeOf_t, srVer_sref, srOff_sref, srLen_sref, ver_row, esOf_row, cellOf_box, aI_mk, aB_mk, aS_mk, aL_mk, aggOf_agg, join_eq, List.getD_cons_zero, List.getD_cons_succ, decide_true, decide_false, cnd_true, cnd_false, true_and, and_true, false_and, and_false, Option.bind_some, Option.bind_none, List.length_cons, List.length_nil, List.length_map, List.getElem?_map, Option.map_some, Option.map_none, Int.toNat_natCast, reduceCtorEq, eq_self, if_true, if_false, Nat.zero_add, Nat.reduceAdd, Nat.reduceEqDiff, Int.natCast_nonneg, List.drop_zero, or_true, true_or, or_false, false_or, Bool.not_true, Bool.not_false, Bool.false_eq_true, decide_eq_true_eq, ge_iff_le, gt_iff_lt, (show (((i : Nat) : Int) == -1) = false by simp), w64_succ (show i < 4611686018427387904 by omega)]
        exact h2
      · have hat := hD.at
        obtain ⟨i', j, es1⟩ := d
        obtain ⟨d1, d2, d3, d4, d5⟩ := hD
        simp only at d1 d2 d3 d4 d5 hat
        unfold dstep
        simp only
        cases hy : s.wait[j]? with
        | none =>
          have hj : s.wait.length ≤ j := by simpa using hy
          have hrf := rowFin (ex := ex) (i := i') d3 (by omega)
          have htl : (es1.take i').length = i' := by simp; omega
          have hlen1 : i' < (es1.map Entry.enc ++ ex).length := by simp; omega
          have hlen2 : (i' : Int) ≤ (((rowSet (es1.map Entry.enc ++ ex) i' (List.replicate (s.wait.length - i') zE)).length : Nat) : Int) := by rw [hrf]; simp; omega
          have hlen3 : 0 < (rowSet (es1.map Entry.enc ++ ex) i' (List.replicate (s.wait.length - i') zE)).length := by rw [hrf]; simp; omega
          simp only [zE] at hrf hlen2 hlen3
          simp only [L13_6, hP1, bxS, c1, c2, c3, vI_mk, vB_mk, vS_mk, vL_mk, sVer_mk, sOff_mk, sLen_mk, oVer_mk, oEs_mk, cI_mk, cB_mk, cS_mk, cL_mk, cVer_mk, cOff_mk, cLen_mk, gI_zero, gI_succ, gB_zero, gB_succ, gS_zero, gS_succ, gL_zero, gL_succ, okI_zero, okI_succ, okB_zero, okB_succ, okS_zero, okS_succ, okL_zero, okL_succ, isIntT_int, isBoolT_bool, isStrT_str, isSlT_sl, intOf_int, boolOf_bool, strOf_str, slOf_sl, treeOf_t, srVer_sref, srOff_sref, srLen_sref, ver_row, esOf_row, cellOf_box, aI_mk, aB_mk, aS_mk, aL_mk, aggOf_agg, join_eq, List.getD_cons_zero, List.getD_cons_succ, decide_true, decide_false, cnd_true, cnd_false, true_and, and_true, false_and, and_false, Option.bind_some, Option.bind_none, List.length_cons, List.length_nil, List.length_map, List.getElem?_map, Option.map_some, Option.map_none, Int.toNat_natCast, reduceCtorEq, eq_self, if_true, if_false, Nat.zero_add, Nat.reduceAdd, Nat.reduceEqDiff, Int.natCast_nonneg, List.drop_zero, or_true, true_or, or_false, false_or, Bool.not_true, Bool.not_false, Bool.false_eq_true, decide_eq_true_eq, ge_iff_le, gt_iff_lt, Nat.sub_zero, (show ¬ (j : Int) < (s.wait.length : Int) by omega), (show (i' : Int) ≤ (s.wait.length : Int) by omega), hlen1, hlen2, hlen3, Rd.go_done, htl, zE]
          rw [hrf]
        | some y =>
          have hj := lt_of_some hy
          have hi2 : es1[i']? = some es1[i'] := List.getElem?_eq_getElem (by omega)
          have hg1 : (es1.map Entry.enc ++ ex)[j]? = some y.enc := by rw [List.getElem?_append_left (by simp; omega), List.getElem?_map, hat, hy]; rfl
          have hg2 : (es1.map Entry.enc ++ ex)[i']? = some (es1[i']).enc := by rw [List.getElem?_append_left (by simp; omega), List.getElem?_map, hi2]; rfl
          have hset : List.set (es1.map Entry.enc ++ ex) i' y.enc = (es1.set i' y).map Entry.enc ++ ex := by rw [List.set_append_left _ _ (by simp; omega), List.map_set]
          simp only [Entry.enc] at hset hg1 hg2
          simp only [L13_6, J13_5, hP1, bxS, c1, c2, c3, vI_mk, vB_mk, vS_mk, vL_mk, sVer_mk, sOff_mk, sLen_mk, oVer_mk, oEs_mk, cI_mk, cB_mk, cS_mk, cL_mk, cVer_mk, cOff_mk, cLen_mk, gI_zero, gI_succ, gB_zero, gB_succ, gS_zero, gS_succ, gL_zero, gL_succ, okI_zero, okI_succ, okB_zero, okB_succ, okS_zero, okS_succ, okL_zero, okL_succ, isIntT_int, isBoolT_bool, isStrT_str, isSlT_sl, intOf_int, boolOf_bool, strOf_str, slOf_sl, treeOf_t, srVer_sref, srOff_sref, srLen_sref, ver_row, esOf_row, cellOf_box, aI_mk, aB_mk, aS_mk, aL_mk, aggOf_agg, join_eq, List.getD_cons_zero, List.getD_cons_succ, decide_true, decide_false, cnd_true, cnd_false, true_and, and_true, false_and, and_false, Option.bind_some, Option.bind_none, List.length_cons, List.length_nil, List.length_map, List.getElem?_map, Option.map_some, Option.map_none, Int.toNat_natCast, reduceCtorEq, eq_self, if_true, if_false, Nat.zero_add, Nat.reduceAdd, Nat.reduceEqDiff, Int.natCast_nonneg, List.drop_zero, or_true, true_or, or_false, false_or, Bool.not_true, Bool.not_false, Bool.false_eq_true, decide_eq_true_eq, ge_iff_le, gt_iff_lt, (show (j : Int) < (s.wait.length : Int) by omega), hg1, hg2, h6, (show (i' : Int) < (s.wait.length : Int) by omega), Nat.le_refl, w64_succ (show i' < 4611686018427387904 by omega), w64_succ (show j < 4611686018427387904 by omega), List.drop_succ_cons, List.append_nil, List.drop_nil, List.cons_append, List.nil_append]
          by_cases hpy : y.exp ≤ t
          · simp only [hpy, vI_mk, vB_mk, vS_mk, vL_mk, sVer_mk, sOff_mk, sLen_mk, oVer_mk, oEs_mk, cI_mk, cB_mk, cS_mk, cL_mk, cVer_mk, cOff_mk, cLen_mk, gI_zero, gI_succ, gB_zero, gB_succ, gS_zero, gS_succ, gL_zero, gL_succ, okI_zero, okI_succ, okB_zero, okB_succ, okS_zero, okS_succ, okL_zero, okL_succ, isIntT_int, isBoolT_bool, isStrT_str, isSlT_sl, intOf_int, boolOf_bool, strOf_str, slOf_sl, treeOf_t, srVer_sref, srOff_sref, srLen_sref, ver_row, esOf_row, cellOf_box, aI_mk, aB_mk, aS_mk, aL_mk, aggOf_agg, join_eq, List.getD_cons_zero, List.getD_cons_succ, decide_true, decide_false, cnd_true, cnd_false, true_and, and_true, false_and, and_false, Option.bind_some, Option.bind_none, List.length_cons, List.length_nil, List.length_map, List.getElem?_map, Option.map_some, Option.map_none, Int.toNat_natCast, reduceCtorEq, eq_self, if_true, if_false, Nat.zero_add, Nat.reduceAdd, Nat.reduceEqDiff, Int.natCast_nonneg, List.drop_zero, or_true, true_or, or_false, false_or, Bool.not_true, Bool.not_false, Bool.false_eq_true, decide_eq_true_eq, ge_iff_le, gt_iff_lt, Rd.go_next]
          · simp only [hpy, vI_mk, vB_mk, vS_mk, vL_mk, sVer_mk, sOff_mk, sLen_mk, oVer_mk, oEs_mk, cI_mk, cB_mk, cS_mk, cL_mk, cVer_mk, cOff_mk, cLen_mk, gI_zero, gI_succ, gB_zero, gB_succ, gS_zero, gS_succ, gL_zero, gL_succ, okI_zero, okI_succ, okB_zero, okB_succ, okS_zero, okS_succ, okL_zero, okL_succ, isIntT_int, isBoolT_bool, isStrT_str, isSlT_sl, intOf_int, boolOf_bool, strOf_str, slOf_sl, treeOf_t, srVer_sref, srOff_sref, srLen_sref, ver_row, esOf_row, cellOf_box, aI_mk, aB_mk, aS_mk, aL_mk, aggOf_agg, join_eq, List.getD_cons_zero, List.getD_cons_succ, decide_true, decide_false, cnd_true, cnd_false, true_and, and_true, false_and, and_false, Option.bind_some, Option.bind_none, List.length_cons, List.length_nil, List.length_map, List.getElem?_map, Option.map_some, Option.map_none, Int.toNat_natCast, reduceCtorEq, eq_self, if_true, if_false, Nat.zero_add, Nat.reduceAdd, Nat.reduceEqDiff, Int.natCast_nonneg, List.drop_zero, or_true, true_or, or_false, false_or, Bool.not_true, Bool.not_false, Bool.false_eq_true, decide_eq_true_eq, ge_iff_le, gt_iff_lt, Rd.go_next, hset]
  · have hi := lt_of_some hx
    have g := he.get hx
    simp only [Entry.enc] at g
    simp only [L13_4, hP1, bxS, c1, c2, c3, vI_mk, vB_mk, vS_mk, vL_mk, sVer_mk, sOff_mk, sLen_mk, oVer_mk, oEs_mk, cI_mk, cB_mk, cS_mk, cL_mk, cVer_mk, cOff_mk, cLen_mk, gI_zero, gI_succ, gB_zero, gB_succ, gS_zero, gS_succ, gL_zero, gL_succ, okI_zero, okI_succ, okB_zero, okB_succ, okS_zero, okS_succ, okL_zero, okL_succ, isIntT_int, isBoolT_bool, isStrT_str, isSlT_sl, intOf_int, boolOf_bool, strOf_str, slOf_sl, treeOf_t, srVer_sref, srOff_sref, srLen_sref, ver_row, esOf_row, cellOf_box, aI_mk, aB_mk, aS_mk, aL_mk, aggOf_agg, join_eq, List.getD_cons_zero, List.getD_cons_succ, decide_true, decide_false, cnd_true, cnd_false, true_and, and_true, false_and, and_false, Option.bind_some, Option.bind_none, List.length_cons, List.length_nil, List.length_map, List.getElem?_map, Option.map_some, Option.map_none, Int.toNat_natCast, reduceCtorEq, eq_self, if_true, if_false, Nat.zero_add, Nat.reduceAdd, Nat.reduceEqDiff, Int.natCast_nonneg, List.drop_zero, or_true, true_or, or_false, false_or, Bool.not_true, Bool.not_false, Bool.false_eq_true, decide_eq_true_eq, ge_iff_le, gt_iff_lt, (show (i : Int) < (s.wait.length : Int) by omega), g, h6, w64_succ (show i < 4611686018427387904 by omega)]
    by_cases h : x.exp ≤ t
    · simp only [h, vI_mk, vB_mk, vS_mk, vL_mk, sVer_mk, sOff_mk, sLen_mk, oVer_mk, oEs_mk, cI_mk, cB_mk, cS_mk, cL_mk, cVer_mk, cOff_mk, cLen_mk, gI_zero, gI_succ, gB_zero, gB_succ, gS_zero, gS_succ, gL_zero, gL_succ, okI_zero, okI_succ, okB_zero, okB_succ, okS_zero, okS_succ, okL_zero, okL_succ, isIntT_int, isBoolT_bool, isStrT_str, isSlT_sl, intOf_int, boolOf_bool, strOf_str, slOf_sl, treeOf_t, srVer_sref, srOff_sref, srLen_sref, ver_row, esOf_row, cellOf_box, aI_mk, aB_mk, aS_mk, aL_mk, aggOf_agg, join_eq, List.getD_cons_zero, List.getD_cons_succ, decide_true, decide_false, cnd_true, cnd_false, true_and, and_true, false_and, and_false, Option.bind_some, Option.bind_none, List.length_cons, List.length_nil, List.length_map, List.getElem?_map, Option.map_some, Option.map_none, Int.toNat_natCast, reduceCtorEq, eq_self, if_true, if_false, Nat.zero_add, Nat.reduceAdd, Nat.reduceEqDiff, Int.natCast_nonneg, List.drop_zero, or_true, true_or, or_false, false_or, Bool.not_true, Bool.not_false, Bool.false_eq_true, decide_eq_true_eq, ge_iff_le, gt_iff_lt, Rd.go_done]
    · simp only [h, vI_mk, vB_mk, vS_mk, vL_mk, sVer_mk, sOff_mk, sLen_mk, oVer_mk, oEs_mk, cI_mk, cB_mk, cS_mk, cL_mk, cVer_mk, cOff_mk, cLen_mk, gI_zero, gI_succ, gB_zero, gB_succ, gS_zero, gS_succ, gL_zero, gL_succ, okI_zero, okI_succ, okB_zero, okB_succ, okS_zero, okS_succ, okL_zero, okL_succ, isIntT_int, isBoolT_bool, isStrT_str, isSlT_sl, intOf_int, boolOf_bool, strOf_str, slOf_sl, treeOf_t, srVer_sref, srOff_sref, srLen_sref, ver_row, esOf_row, cellOf_box, aI_mk, aB_mk, aS_mk, aL_mk, aggOf_agg, join_eq, List.getD_cons_zero, List.getD_cons_succ, decide_true, decide_false, cnd_true, cnd_false, true_and, and_true, false_and, and_false, Option.bind_some, Option.bind_none, List.length_cons, List.length_nil, List.length_map, List.getElem?_map, Option.map_some, Option.map_none, Int.toNat_natCast, reduceCtorEq, eq_self, if_true, if_false, Nat.zero_add, Nat.reduceAdd, Nat.reduceEqDiff, Int.natCast_nonneg, List.drop_zero, or_true, true_or, or_false, false_or, Bool.not_true, Bool.not_false, Bool.false_eq_true, decide_eq_true_eq, ge_iff_le, gt_iff_lt, Rd.go_next]
  · simp only [L13_4, hP1, bxS, c1, c2, c3, vI_mk, vB_mk, vS_mk, vL_mk, sVer_mk, sOff_mk, sLen_mk, oVer_mk, oEs_mk, cI_mk, cB_mk, cS_mk, cL_mk, cVer_mk, cOff_mk, cLen_mk, gI_zero, gI_succ, gB_zero, gB_succ, gS_zero, gS_succ, gL_zero, gL_succ, okI_zero, okI_succ, okB_zero, okB_succ, okS_zero, okS_succ, okL_zero, okL_succ, isIntT_int, isBoolT_bool, isStrT_str, isSlT_sl, intOf_int, boolOf_bool, strOf_str, slOf_sl, treeOf_t, srVer_sref, srOff_sref, srLen_sref, ver_row, esOf_row, cellOf_box, aI_mk, aB_mk, aS_mk, aL_mk, aggOf_agg, join_eq, List.getD_cons_zero, List.getD_cons_succ, decide_true, decide_false, cnd_true, cnd_false, true_and, and_true, false_and, and_false, Option.bind_some, Option.bind_none, List.length_cons, List.length_nil, List.length_map, List.getElem?_map, Option.map_some, Option.map_none, Int.toNat_natCast, reduceCtorEq, eq_self, if_true, if_false, Nat.zero_add, Nat.reduceAdd, Nat.reduceEqDiff, Int.natCast_nonneg, List.drop_zero, or_true, true_or, or_false, false_or, Bool.not_true, Bool.not_false, Bool.false_eq_true, decide_eq_true_eq, ge_iff_le, gt_iff_lt, Int.lt_irrefl]
/-- All of a step behind the arrivals. -/
theorem p3 (l : List Arr) (hl : l.length ≤ 64) {rate : Int} (hr : 1 ≤ rate ∧ rate ≤ 1000) {t : Int} (ht : 0 ≤ t ∧ t ≤ 1099520016384) (s : QS) (hs : QMid l s) (v : Nat) (es : List (List Tree)) (he : Holds s.wait es) (p6 : List AV × Heap) (h6 : vI p6 0 = t) :
    ∃ v' es', Holds (begP rate t (preP t (expQ t s))).wait es' ∧ Ev fun n => ∀ ag27 z, J13_24 n ag27 z p6 ([.t (.bool false)], hP1 rate s v es) = z ([], hP rate (begP rate t (preP t (expQ t s))) v' es') := by
  have hwl := hs.wl
  obtain ⟨es1, q1, q2⟩ := x1 (rate := rate) s v es he (by omega) p6 ([.t (.bool false)], hP1 rate s v es) h6 rfl
  obtain ⟨v', es', q3, q4⟩ := p4 l hl hr ht (expQ t s) (hs.exp t) v es1 q1 p6 h6
  refine ⟨v', es', q3, (q2.and q4).mono fun n h ag27 z => ?_⟩
  obtain ⟨h1, h2⟩ := h
  have h1' := h1 fun p32 => J13_23 n z p6 p32
  have h2' := h2 z
  simp only [hP1, bxS, expQ] at h1' h2'
  simp only [J13_24, hP1, bxS, vI_mk, vB_mk, vS_mk, vL_mk, sVer_mk, sOff_mk, sLen_mk, oVer_mk, oEs_mk, cI_mk, cB_mk, cS_mk, cL_mk, cVer_mk, cOff_mk, cLen_mk, gI_zero, gI_succ, gB_zero, gB_succ, gS_zero, gS_succ, gL_zero, gL_succ, okI_zero, okI_succ, okB_zero, okB_succ, okS_zero, okS_succ, okL_zero, okL_succ, isIntT_int, isBoolT_bool, isStrT_str, isSlT_sl, intOf_int, boolOf_bool, strOf_str, slOf_sl, treeOf_t, srVer_sref, srOff_sref, srLen_sref, ver_row, esOf_row, cellOf_box, aI_mk, aB_mk, aS_mk, aL_mk, aggOf_agg, join_eq, List.getD_cons_zero, List.getD_cons_succ, decide_true, decide_false, cnd_true, cnd_false, true_and, and_true, false_and, and_false, Option.bind_some, Option.bind_none, List.length_cons, List.length_nil, List.length_map, List.getElem?_map, Option.map_some, Option.map_none, Int.toNat_natCast, reduceCtorEq, eq_self, if_true, if_false, Nat.zero_add, Nat.reduceAdd, Nat.reduceEqDiff, Int.natCast_nonneg, List.drop_zero, or_true, true_or, or_false, false_or, Bool.not_true, Bool.not_false, Bool.false_eq_true, decide_eq_true_eq, ge_iff_le, gt_iff_lt]
  exact h1'.trans h2'
theorem take_mid {l : List Arr} (hg : GoodA l) {s : QS} (hs : QMid l s) (k : Nat) (hk : k ≤ s.co.length) : QMid l { s with wait := s.wait ++ (s.co.take k).map Arr.e, co := s.co.drop k } := by
  refine ⟨drop_suffix hs.co (List.drop_suffix _ _), hs.out, ?_, fun x hx => ?_, hs.nv⟩
  · have := hs.wl
    simp only [List.length_append, List.length_map, List.length_take, List.length_drop]
    omega
  · rw [List.mem_append, List.mem_map] at hx
    rcases hx with hx | ⟨a, ha, rfl⟩
    · exact hs.wv x hx
    · have := List.mem_of_mem_take ha
      rw [hs.co] at this
      exact (hg.val a (List.mem_of_mem_drop this)).2
/-- Arrivals, one by one: what is ahead is known. -/
theorem p2 (l : List Arr) (hg : GoodA l) {rate : Int} (hr : 1 ≤ rate ∧ rate ≤ 1000) {t : Int} (ht : 0 ≤ t ∧ t ≤ 1099520016384) (p6 : List AV × Heap) (h6 : vI p6 0 = t) :
    ∀ (k : Nat) (s : QS), (s.co.takeWhile fun a => decide (a.at_ = t)).length = k → QMid l s → ∀ (v : Nat) (es : List (List Tree)), Holds s.wait es →
    ∃ v' es', Holds (begP rate t (preP t (expQ t (takeP t s)))).wait es' ∧ Ev fun n => ∀ z m, k < m → loopIter (fun p again => L13_25 n z p6 p again) m ([], hP1 rate s v es) = z ([], hP rate (begP rate t (preP t (expQ t (takeP t s)))) v' es')
  | 0, s, hk, hs, v, es, he => by
    have htw : (s.co.takeWhile fun a => decide (a.at_ = t)) = [] := List.eq_nil_of_length_eq_zero hk
    have hco : s.co.dropWhile (fun a => decide (a.at_ = t)) = s.co := by rw [dw_drop, hk]; rfl
    have htp : takeP t s = s := by unfold takeP; rw [htw, hco]; simp
    rw [htp]
    obtain ⟨v', es', q1, q2⟩ := p3 l hg.len hr ht s hs v es he p6 h6
    refine ⟨v', es', q1, q2.mono fun n h z m hm => ?_⟩
    obtain ⟨m, rfl⟩ : ∃ q, m = q + 1 := ⟨m - 1, by omega⟩
    show L13_25 n z p6 _ (loopIter _ m) = _
    have h' := h (loopIter (fun p again => L13_25 n z p6 p again) m) z
    simp only [hP1, bxS] at h'
    cases hc : s.co with
    | nil =>
      simp only [hc, List.map_nil] at h'
      simp only [L13_25, hP1, bxS, hc, vI_mk, vB_mk, vS_mk, vL_mk, sVer_mk, sOff_mk, sLen_mk, oVer_mk, oEs_mk, cI_mk, cB_mk, cS_mk, cL_mk, cVer_mk, cOff_mk, cLen_mk, gI_zero, gI_succ, gB_zero, gB_succ, gS_zero, gS_succ, gL_zero, gL_succ, okI_zero, okI_succ, okB_zero, okB_succ, okS_zero, okS_succ, okL_zero, okL_succ, isIntT_int, isBoolT_bool, isStrT_str, isSlT_sl, intOf_int, boolOf_bool, strOf_str, slOf_sl, treeOf_t, srVer_sref, srOff_sref, srLen_sref, ver_row, esOf_row, cellOf_box, aI_mk, aB_mk, aS_mk, aL_mk, aggOf_agg, join_eq, List.getD_cons_zero, List.getD_cons_succ, decide_true, decide_false, cnd_true, cnd_false, true_and, and_true, false_and, and_false, Option.bind_some, Option.bind_none, List.length_cons, List.length_nil, List.length_map, List.getElem?_map, Option.map_some, Option.map_none, Int.toNat_natCast, reduceCtorEq, eq_self, if_true, if_false, Nat.zero_add, Nat.reduceAdd, Nat.reduceEqDiff, Int.natCast_nonneg, List.drop_zero, or_true, true_or, or_false, false_or, Bool.not_true, Bool.not_false, Bool.false_eq_true, decide_eq_true_eq, ge_iff_le, gt_iff_lt, List.map_nil, Int.natCast_zero, Int.lt_irrefl]
      exact h'
    | cons a r =>
      have hat : ¬ a.at_ = t := by
        intro h
        rw [hc, List.takeWhile_cons] at htw
        simp [h] at htw
      have hbe : (a.at_ == t) = false := by simpa using hat
      simp only [hc, List.map_cons, Arr.enc] at h'
      simp only [L13_25, hP1, bxS, hc, vI_mk, vB_mk, vS_mk, vL_mk, sVer_mk, sOff_mk, sLen_mk, oVer_mk, oEs_mk, cI_mk, cB_mk, cS_mk, cL_mk, cVer_mk, cOff_mk, cLen_mk, gI_zero, gI_succ, gB_zero, gB_succ, gS_zero, gS_succ, gL_zero, gL_succ, okI_zero, okI_succ, okB_zero, okB_succ, okS_zero, okS_succ, okL_zero, okL_succ, isIntT_int, isBoolT_bool, isStrT_str, isSlT_sl, intOf_int, boolOf_bool, strOf_str, slOf_sl, treeOf_t, srVer_sref, srOff_sref, srLen_sref, ver_row, esOf_row, cellOf_box, aI_mk, aB_mk, aS_mk, aL_mk, aggOf_agg, join_eq, List.getD_cons_zero, List.getD_cons_succ, decide_true, decide_false, cnd_true, cnd_false, true_and, and_true, false_and, and_false, Option.bind_some, Option.bind_none, List.length_cons, List.length_nil, List.length_map, List.getElem?_map, Option.map_some, Option.map_none, Int.toNat_natCast, reduceCtorEq, eq_self, if_true, if_false, Nat.zero_add, Nat.reduceAdd, Nat.reduceEqDiff, Int.natCast_nonneg, List.drop_zero, or_true, true_or, or_false, false_or, Bool.not_true, Bool.not_false, Bool.false_eq_true, decide_eq_true_eq, ge_iff_le, gt_iff_lt, List.map_cons, List.getElem?_cons_zero, Arr.enc, (show (0 : Int) < ((r.length + 1 : Nat) : Int) by omega), h6, hbe]
      exact h'
  | k + 1, s, hk, hs, v, es, he => by
    cases hc : s.co with
    | nil => rw [hc] at hk; simp at hk
    | cons a r =>
      have hat : a.at_ = t := by
        rw [hc, List.takeWhile_cons] at hk
        by_cases h : a.at_ = t
        · exact h
        · simp [h] at hk
      have hk2 : (r.takeWhile fun a => decide (a.at_ = t)).length = k := by
        rw [hc, List.takeWhile_cons] at hk
        simp [hat] at hk
        exact hk
      have hm := take_mid hg hs 1 (by rw [hc]; simp)
      rw [hc] at hm
      simp only [List.take_succ_cons, List.take_zero, List.drop_succ_cons, List.drop_zero, List.map_cons, List.map_nil] at hm
      have hwl := hs.wl
      have hlen := hg.len
      obtain ⟨v', es', q1, q2⟩ := p2 l hg hr ht p6 h6 k { s with wait := s.wait ++ [a.e], co := r } hk2 hm (v + 1) ((s.wait ++ [a.e]).map Entry.enc) (Holds.self _)
      have htp : takeP t { s with wait := s.wait ++ [a.e], co := r } = takeP t s := by
        unfold takeP
        simp only [hc, List.takeWhile_cons, List.dropWhile_cons, hat, decide_true, if_true, List.map_cons, List.append_assoc, List.cons_append, List.nil_append]
      rw [htp] at q1 q2
      refine ⟨v', es', q1, q2.mono fun n h z m hm => ?_⟩
      obtain ⟨m, rfl⟩ : ∃ q, m = q + 1 := ⟨m - 1, by omega⟩
      show L13_25 n z p6 _ (loopIter _ m) = _
      refine Eq.trans ?_ (h z m (by omega))
      have hbe : (a.at_ == t) = true := by simpa using hat
      have e1 : List.take r.length (List.map Arr.enc r) = List.map Arr.enc r := List.take_of_length_le (by simp)
      have htk := he.take
      have hhl := he.len
      simp only [L13_25, J13_24, hP1, bxS, hc, vI_mk, vB_mk, vS_mk, vL_mk, sVer_mk, sOff_mk, sLen_mk, oVer_mk, oEs_mk, cI_mk, cB_mk, cS_mk, cL_mk, cVer_mk, cOff_mk, cLen_mk, gI_zero, gI_succ, gB_zero, gB_succ, gS_zero, gS_succ, gL_zero, gL_succ, okI_zero, okI_succ, okB_zero, okB_succ, okS_zero, okS_succ, okL_zero, okL_succ, isIntT_int, isBoolT_bool, isStrT_str, isSlT_sl, intOf_int, boolOf_bool, strOf_str, slOf_sl, treeOf_t, srVer_sref, srOff_sref, srLen_sref, ver_row, esOf_row, cellOf_box, aI_mk, aB_mk, aS_mk, aL_mk, aggOf_agg, join_eq, List.getD_cons_zero, List.getD_cons_succ, decide_true, decide_false, cnd_true, cnd_false, true_and, and_true, false_and, and_false, Option.bind_some, Option.bind_none, List.length_cons, List.length_nil, List.length_map, List.getElem?_map, Option.map_some, Option.map_none, Int.toNat_natCast, reduceCtorEq, eq_self, if_true, if_false, Nat.zero_add, Nat.reduceAdd, Nat.reduceEqDiff, Int.natCast_nonneg, List.drop_zero, or_true, true_or, or_false, false_or, Bool.not_true, Bool.not_false, Bool.false_eq_true, decide_eq_true_eq, ge_iff_le, gt_iff_lt, List.map_cons, List.getElem?_cons_zero, Arr.enc, (show (0 : Int) < ((r.length + 1 : Nat) : Int) by omega), h6, hbe, hhl, (show s.wait.length + 1 ≤ 1073741824 by omega), (show (0 : Int) ≤ 1 by omega), (show (1 : Int) ≤ ((r.length + 1 : Nat) : Int) by omega), List.take_succ_cons, List.drop_succ_cons, e1, htk, List.map_append, List.map_nil, List.length_append, Entry.enc]
end Ab
