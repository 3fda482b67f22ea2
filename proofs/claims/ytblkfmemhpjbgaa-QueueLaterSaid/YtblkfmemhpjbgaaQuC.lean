/- Queue: Push, Pop, Remove of the program and of the reference. -/
import Derived.Test.YtblkfmemhpjbgaaQuB
set_option linter.unusedVariables false
set_option linter.unusedSimpArgs false
namespace Ab
open Go


/-! ### Push -/
def pushQ (l : List Entry) (x : Entry) : List Entry × Int := if checkQ l ≠ 0 then ([], 1) else if ¬ ValidE x then ([], 2) else if hasT l x.ticket = true then ([], 6) else if l.length = 64 then ([], 4) else (insQ x l, 0)
theorem down_ahead {l : List Entry} (h : l.Pairwise fun a b => ahead a b = true) (x : Entry) : Down (fun y => ahead y x) l := by
  intro i j a b hij ha hb hlt
  rcases Nat.lt_or_ge i j with hl | hl
  · have h1 := lt_of_some ha
    have h2 := lt_of_some hb
    have := List.pairwise_iff_getElem.1 h i j h1 h2 hl
    rw [List.getElem?_eq_getElem h1] at ha
    rw [List.getElem?_eq_getElem h2] at hb
    cases ha; cases hb
    exact ahead_tr this hlt
  · obtain rfl : i = j := by omega
    rw [ha] at hb
    cases hb
    exact hlt
theorem insQ_count {l : List Entry} (h : l.Pairwise fun a b => ahead a b = true) (x : Entry) : insQ x l = l.take (l.countP fun y => ahead y x) ++ x :: l.drop (l.countP fun y => ahead y x) := by
  obtain ⟨h1, h2⟩ := countP_down (down_ahead h x)
  rw [insQ_tw, h1, h2]
theorem s21 (l : List Entry) (x : Entry) (hl : l.length ≤ 1000000) : Runs C 21 (.sl 4 (l.map Entry.enc) :: x.enc) [.sl 4 ((pushQ l x).1.map Entry.enc), tI (pushQ l x).2] := by
  refine Runs.of (fun n => e21 n _ _ _ _ _) ?_
  refine ((s27 l hl).and ((s49 x).and ((s50 l x.ticket hl).and (s41 l x hl)))).mono fun n h => ?_
  obtain ⟨h1, h2, h3, h4⟩ := h
  rw [Entry.enc] at h2 h4
  unfold pushQ
  simp only [h1, h2, h3, h4, vI_mk, vB_mk, vS_mk, vL_mk, sVer_mk, sOff_mk, sLen_mk, oVer_mk, oEs_mk, cI_mk, cB_mk, cS_mk, cL_mk, cVer_mk, cOff_mk, cLen_mk, gI_zero, gI_succ, gB_zero, gB_succ, gS_zero, gS_succ, gL_zero, gL_succ, okI_zero, okI_succ, okB_zero, okB_succ, okS_zero, okS_succ, okL_zero, okL_succ, isIntT_int, isBoolT_bool, isStrT_str, isSlT_sl, intOf_int, boolOf_bool, strOf_str, slOf_sl, treeOf_t, srVer_sref, srOff_sref, srLen_sref, ver_row, esOf_row, cellOf_box, aI_mk, aB_mk, aS_mk, aL_mk, aggOf_agg, join_eq, List.getD_cons_zero, List.getD_cons_succ, decide_true, decide_false, cnd_true, cnd_false, true_and, and_true, false_and, and_false, Option.bind_some, Option.bind_none, List.length_cons, List.length_nil, List.length_map, List.getElem?_map, Option.map_some, Option.map_none, Int.toNat_natCast, reduceCtorEq, eq_self, if_true, if_false, Nat.zero_add, Nat.reduceAdd, Nat.reduceEqDiff, Int.natCast_nonneg, List.drop_zero, or_true, true_or, or_false, false_or, Bool.not_true, Bool.not_false, Bool.false_eq_true, decide_eq_true_eq, ge_iff_le, gt_iff_lt]
  by_cases c1 : checkQ l = 0
  · by_cases c2 : ValidE x
    · cases c3 : hasT l x.ticket with
      | true => simp [c1, c2, c3, cnd_eq]
      | false =>
        by_cases c4 : l.length = 64
        · simp [c1, c2, c3, c4, cnd_eq]
        · have : ((l.length : Int) == 64) = false := by simp; omega
          simp [c1, c2, c3, c4, cnd_eq, this]
    · simp [c1, c2, cnd_eq]
  · have : (checkQ l != 0) = true := by simp [c1]
    simp [c1, cnd_eq]
theorem s17 (l : List Entry) (x : Entry) (hl : l.length ≤ 1000000) : Runs C 17 (.sl 4 (l.map Entry.enc) :: x.enc) [.sl 4 ((pushQ l x).1.map Entry.enc), tI (pushQ l x).2] := by
  refine Runs.of (fun n => e17 n _ _ _ _ _) ?_
  unfold pushQ
  by_cases c1 : checkQ l = 0
  · have hg := (checkQ_zero l).1 c1
    have hlen := hg.len
    by_cases c2 : ValidE x
    · cases c3 : hasT l x.ticket with
      | true =>
        refine ((s26 l hl).and ((s43 x).and (s44 l x.ticket hl))).mono fun n h => ?_
        obtain ⟨h1, h2, h3⟩ := h
        rw [Entry.enc] at h2
        simp [h1, h2, h3, c1, c2, c3, cnd_eq, okI, okB, gI, gB, isIntT, isBoolT, intOf, boolOf]
      | false =>
        refine Ev.rw (T' := ?TT) ((s26 l hl).and ((s43 x).and (s44 l x.ticket hl))) (fun k h => ?g1) ?g2
        case g1 =>
          obtain ⟨h1, h2, h3⟩ := h
          simp only [Entry.enc] at h2
          simp only [h1, h2, h3, c1, c2, c3, vI_mk, vB_mk, vS_mk, vL_mk, sVer_mk, sOff_mk, sLen_mk, oVer_mk, oEs_mk, cI_mk, cB_mk, cS_mk, cL_mk, cVer_mk, cOff_mk, cLen_mk, gI_zero, gI_succ, gB_zero, gB_succ, gS_zero, gS_succ, gL_zero, gL_succ, okI_zero, okI_succ, okB_zero, okB_succ, okS_zero, okS_succ, okL_zero, okL_succ, isIntT_int, isBoolT_bool, isStrT_str, isSlT_sl, intOf_int, boolOf_bool, strOf_str, slOf_sl, treeOf_t, srVer_sref, srOff_sref, srLen_sref, ver_row, esOf_row, cellOf_box, aI_mk, aB_mk, aS_mk, aL_mk, aggOf_agg, join_eq, List.getD_cons_zero, List.getD_cons_succ, decide_true, decide_false, cnd_true, cnd_false, true_and, and_true, false_and, and_false, Option.bind_some, Option.bind_none, List.length_cons, List.length_nil, List.length_map, List.getElem?_map, Option.map_some, Option.map_none, Int.toNat_natCast, reduceCtorEq, eq_self, if_true, if_false, Nat.zero_add, Nat.reduceAdd, Nat.reduceEqDiff, Int.natCast_nonneg, List.drop_zero, or_true, true_or, or_false, false_or, Bool.not_true, Bool.not_false, Bool.false_eq_true, decide_eq_true_eq, ge_iff_le, gt_iff_lt, bne_self_eq_false]
          rfl
        case g2 =>
          by_cases c4 : l.length = 64
          · refine Ev.of fun n => ?_
            simp [c1, c2, c4, cnd_eq]
          · have c4' : ((l.length : Int) == 64) = false := by simp; omega
            simp only [c4', vI_mk, vB_mk, vS_mk, vL_mk, sVer_mk, sOff_mk, sLen_mk, oVer_mk, oEs_mk, cI_mk, cB_mk, cS_mk, cL_mk, cVer_mk, cOff_mk, cLen_mk, gI_zero, gI_succ, gB_zero, gB_succ, gS_zero, gS_succ, gL_zero, gL_succ, okI_zero, okI_succ, okB_zero, okB_succ, okS_zero, okS_succ, okL_zero, okL_succ, isIntT_int, isBoolT_bool, isStrT_str, isSlT_sl, intOf_int, boolOf_bool, strOf_str, slOf_sl, treeOf_t, srVer_sref, srOff_sref, srLen_sref, ver_row, esOf_row, cellOf_box, aI_mk, aB_mk, aS_mk, aL_mk, aggOf_agg, join_eq, List.getD_cons_zero, List.getD_cons_succ, decide_true, decide_false, cnd_true, cnd_false, true_and, and_true, false_and, and_false, Option.bind_some, Option.bind_none, List.length_cons, List.length_nil, List.length_map, List.getElem?_map, Option.map_some, Option.map_none, Int.toNat_natCast, reduceCtorEq, eq_self, if_true, if_false, Nat.zero_add, Nat.reduceAdd, Nat.reduceEqDiff, Int.natCast_nonneg, List.drop_zero, or_true, true_or, or_false, false_or, Bool.not_true, Bool.not_false, Bool.false_eq_true, decide_eq_true_eq, ge_iff_le, gt_iff_lt, c1, c2, c4, ne_eq, not_true]
            have key := bs_overZ (R := List Tree) (Z := List AV × Heap → Option (List Tree)) (B := fun n z p again => L17_1 n (l.map Entry.enc) x.ticket x.prio x.exp x.size z p again)
                (fun z (k : Nat) => z ([.t (tI k), .t (.bool (if k < l.length then ((l[k]?.map fun y => cmpE y x) == some 0) else false))], [])) (fun y => ahead y x) l id (fun s => (([.t (tI s.1), .t (tI s.2)], []) : List AV × Heap)) (down_ahead hg.srt x) rfl
                (fun s a1 a2 a3 => by
                  obtain ⟨a, b⟩ := s
                  simp only at a1 a2 a3
                  by_cases hab : a < b
                  · have hm : l[(a + b) / 2]? = some l[(a + b) / 2] := List.getElem?_eq_getElem (by omega)
                    refine (s46 l[(a + b) / 2] x).mono fun n h z again => ?_
                    simp only [Entry.enc, List.cons_append, List.nil_append] at h
                    simp only [L17_1, vI_mk, vB_mk, vS_mk, vL_mk, sVer_mk, sOff_mk, sLen_mk, oVer_mk, oEs_mk, cI_mk, cB_mk, cS_mk, cL_mk, cVer_mk, cOff_mk, cLen_mk, gI_zero, gI_succ, gB_zero, gB_succ, gS_zero, gS_succ, gL_zero, gL_succ, okI_zero, okI_succ, okB_zero, okB_succ, okS_zero, okS_succ, okL_zero, okL_succ, isIntT_int, isBoolT_bool, isStrT_str, isSlT_sl, intOf_int, boolOf_bool, strOf_str, slOf_sl, treeOf_t, srVer_sref, srOff_sref, srLen_sref, ver_row, esOf_row, cellOf_box, aI_mk, aB_mk, aS_mk, aL_mk, aggOf_agg, join_eq, List.getD_cons_zero, List.getD_cons_succ, decide_true, decide_false, cnd_true, cnd_false, true_and, and_true, false_and, and_false, Option.bind_some, Option.bind_none, List.length_cons, List.length_nil, List.length_map, List.getElem?_map, Option.map_some, Option.map_none, Int.toNat_natCast, reduceCtorEq, eq_self, if_true, if_false, Nat.zero_add, Nat.reduceAdd, Nat.reduceEqDiff, Int.natCast_nonneg, List.drop_zero, or_true, true_or, or_false, false_or, Bool.not_true, Bool.not_false, Bool.false_eq_true, decide_eq_true_eq, ge_iff_le, gt_iff_lt, halfU a b (by omega), hm, Entry.enc, (show (a : Int) < (b : Int) by omega), bsStep, if_pos hab, w64_succ (show (a + b) / 2 < 4611686018427387904 by omega), h, cmpE_neg]
                    cases hx : ahead l[(a + b) / 2] x <;> simp [cnd_eq, Rd.go_next]
                  · obtain rfl : a = b := by omega
                    by_cases hal : a < l.length
                    · have hm : l[a]? = some l[a] := List.getElem?_eq_getElem hal
                      refine (s46 l[a] x).mono fun n h z again => ?_
                      simp only [Entry.enc, List.cons_append, List.nil_append] at h
                      simp only [L17_1, vI_mk, vB_mk, vS_mk, vL_mk, sVer_mk, sOff_mk, sLen_mk, oVer_mk, oEs_mk, cI_mk, cB_mk, cS_mk, cL_mk, cVer_mk, cOff_mk, cLen_mk, gI_zero, gI_succ, gB_zero, gB_succ, gS_zero, gS_succ, gL_zero, gL_succ, okI_zero, okI_succ, okB_zero, okB_succ, okS_zero, okS_succ, okL_zero, okL_succ, isIntT_int, isBoolT_bool, isStrT_str, isSlT_sl, intOf_int, boolOf_bool, strOf_str, slOf_sl, treeOf_t, srVer_sref, srOff_sref, srLen_sref, ver_row, esOf_row, cellOf_box, aI_mk, aB_mk, aS_mk, aL_mk, aggOf_agg, join_eq, List.getD_cons_zero, List.getD_cons_succ, decide_true, decide_false, cnd_true, cnd_false, true_and, and_true, false_and, and_false, Option.bind_some, Option.bind_none, List.length_cons, List.length_nil, List.length_map, List.getElem?_map, Option.map_some, Option.map_none, Int.toNat_natCast, reduceCtorEq, eq_self, if_true, if_false, Nat.zero_add, Nat.reduceAdd, Nat.reduceEqDiff, Int.natCast_nonneg, List.drop_zero, or_true, true_or, or_false, false_or, Bool.not_true, Bool.not_false, Bool.false_eq_true, decide_eq_true_eq, ge_iff_le, gt_iff_lt, Int.lt_irrefl, hm, Entry.enc, (show (a : Int) < (l.length : Int) by omega), bsStep, Nat.lt_irrefl, h, Rd.go_done, id, hal]
                      congr 5
                    · refine Ev.of fun n z again => ?_
                      simp only [L17_1, vI_mk, vB_mk, vS_mk, vL_mk, sVer_mk, sOff_mk, sLen_mk, oVer_mk, oEs_mk, cI_mk, cB_mk, cS_mk, cL_mk, cVer_mk, cOff_mk, cLen_mk, gI_zero, gI_succ, gB_zero, gB_succ, gS_zero, gS_succ, gL_zero, gL_succ, okI_zero, okI_succ, okB_zero, okB_succ, okS_zero, okS_succ, okL_zero, okL_succ, isIntT_int, isBoolT_bool, isStrT_str, isSlT_sl, intOf_int, boolOf_bool, strOf_str, slOf_sl, treeOf_t, srVer_sref, srOff_sref, srLen_sref, ver_row, esOf_row, cellOf_box, aI_mk, aB_mk, aS_mk, aL_mk, aggOf_agg, join_eq, List.getD_cons_zero, List.getD_cons_succ, decide_true, decide_false, cnd_true, cnd_false, true_and, and_true, false_and, and_false, Option.bind_some, Option.bind_none, List.length_cons, List.length_nil, List.length_map, List.getElem?_map, Option.map_some, Option.map_none, Int.toNat_natCast, reduceCtorEq, eq_self, if_true, if_false, Nat.zero_add, Nat.reduceAdd, Nat.reduceEqDiff, Int.natCast_nonneg, List.drop_zero, or_true, true_or, or_false, false_or, Bool.not_true, Bool.not_false, Bool.false_eq_true, decide_eq_true_eq, ge_iff_le, gt_iff_lt, Int.lt_irrefl, (show ¬ (a : Int) < (l.length : Int) by omega), bsStep, Nat.lt_irrefl, Rd.go_done, id, hal])
            refine ((s1000048 (l.map Entry.enc) (by simp; omega)).and key).mono fun n h => ?_
            obtain ⟨h1, h2⟩ := h
            simp only [id, Int.natCast_zero] at h2
            have hk : l.countP (fun y => ahead y x) ≤ l.length := List.countP_le_length
            simp only [join_eq, h2, id, J17_2, h1, vI_mk, vB_mk, vS_mk, vL_mk, sVer_mk, sOff_mk, sLen_mk, oVer_mk, oEs_mk, cI_mk, cB_mk, cS_mk, cL_mk, cVer_mk, cOff_mk, cLen_mk, gI_zero, gI_succ, gB_zero, gB_succ, gS_zero, gS_succ, gL_zero, gL_succ, okI_zero, okI_succ, okB_zero, okB_succ, okS_zero, okS_succ, okL_zero, okL_succ, isIntT_int, isBoolT_bool, isStrT_str, isSlT_sl, intOf_int, boolOf_bool, strOf_str, slOf_sl, treeOf_t, srVer_sref, srOff_sref, srLen_sref, ver_row, esOf_row, cellOf_box, aI_mk, aB_mk, aS_mk, aL_mk, aggOf_agg, join_eq, List.getD_cons_zero, List.getD_cons_succ, decide_true, decide_false, cnd_true, cnd_false, true_and, and_true, false_and, and_false, Option.bind_some, Option.bind_none, List.length_cons, List.length_nil, List.length_map, List.getElem?_map, Option.map_some, Option.map_none, Int.toNat_natCast, reduceCtorEq, eq_self, if_true, if_false, Nat.zero_add, Nat.reduceAdd, Nat.reduceEqDiff, Int.natCast_nonneg, List.drop_zero, or_true, true_or, or_false, false_or, Bool.not_true, Bool.not_false, Bool.false_eq_true, decide_eq_true_eq, ge_iff_le, gt_iff_lt, (show l.length + 1 ≤ 1073741824 by omega), (show ((l.countP fun y => ahead y x : Nat) : Int) ≤ (l.length : Int) by omega), insQ_count hg.srt x]
            have e1 : List.take (l.length + 1) (List.take (l.countP fun y => ahead y x) (l.map Entry.enc) ++ [[tI x.ticket, tI x.prio, tI x.exp, tI x.size]] ++ List.drop (l.countP fun y => ahead y x) (l.map Entry.enc)) = List.take (l.countP fun y => ahead y x) (l.map Entry.enc) ++ [[tI x.ticket, tI x.prio, tI x.exp, tI x.size]] ++ List.drop (l.countP fun y => ahead y x) (l.map Entry.enc) := List.take_of_length_le (by simp; omega)
            rw [e1]
            simp [Entry.enc]
    · refine ((s26 l hl).and (s43 x)).mono fun n h => ?_
      obtain ⟨h1, h2⟩ := h
      rw [Entry.enc] at h2
      simp [h1, h2, c1, c2, cnd_eq, okI, okB, gI, gB, isIntT, isBoolT, intOf, boolOf]
  · refine (s26 l hl).mono fun n h1 => ?_
    simp only [h1, vI_mk, vB_mk, vS_mk, vL_mk, sVer_mk, sOff_mk, sLen_mk, oVer_mk, oEs_mk, cI_mk, cB_mk, cS_mk, cL_mk, cVer_mk, cOff_mk, cLen_mk, gI_zero, gI_succ, gB_zero, gB_succ, gS_zero, gS_succ, gL_zero, gL_succ, okI_zero, okI_succ, okB_zero, okB_succ, okS_zero, okS_succ, okL_zero, okL_succ, isIntT_int, isBoolT_bool, isStrT_str, isSlT_sl, intOf_int, boolOf_bool, strOf_str, slOf_sl, treeOf_t, srVer_sref, srOff_sref, srLen_sref, ver_row, esOf_row, cellOf_box, aI_mk, aB_mk, aS_mk, aL_mk, aggOf_agg, join_eq, List.getD_cons_zero, List.getD_cons_succ, decide_true, decide_false, cnd_true, cnd_false, true_and, and_true, false_and, and_false, Option.bind_some, Option.bind_none, List.length_cons, List.length_nil, List.length_map, List.getElem?_map, Option.map_some, Option.map_none, Int.toNat_natCast, reduceCtorEq, eq_self, if_true, if_false, Nat.zero_add, Nat.reduceAdd, Nat.reduceEqDiff, Int.natCast_nonneg, List.drop_zero, or_true, true_or, or_false, false_or, Bool.not_true, Bool.not_false, Bool.false_eq_true, decide_eq_true_eq, ge_iff_le, gt_iff_lt]
    simp [c1, cnd_eq]

/-! ### deletions -/
/-- The search ahead of a deletion. -/
theorem rowTail {es : List Entry} {i : Nat} {L : Nat} (h : es.length = L) (hi : i ≤ L) : List.take i (rowSet (es.map Entry.enc) i (List.replicate (L - i) [tI 0, tI 0, tI 0, tI 0])) = (es.take i).map Entry.enc := by
  rw [rowSet_keep _ _ _ _ (Nat.le_refl i) (by simp; omega), List.map_take]
theorem rowLen {es : List Entry} {i : Nat} {L : Nat} (h : es.length = L) (hi : i ≤ L) : (rowSet (es.map Entry.enc) i (List.replicate (L - i) [tI 0, tI 0, tI 0, tI 0])).length = L := by
  rw [rowSet_len _ _ _ (by simp; omega)]; simp [h]
theorem s29 (l : List Entry) (t : Int) (hl : l.length ≤ 1000000) : Runs C 29 [.sl 4 (l.map Entry.enc), tI t] [.sl 4 ((removeQ l t).map Entry.enc)] := by
  refine Runs.of (fun n => e29 n _ _) ?_
  have k1 := loop_overZ (R := List Tree) (Z := List AV × Heap → Option (List Tree)) (B := fun n z p again => L29_1 n [.sl 4 (l.map Entry.enc)] t z p again) (s := (([.t (tI 0)], [.row false 0 4 (l.map Entry.enc)]) : List AV × Heap)) l (fun i (_ : Unit) => (([.t (tI i)], [.row false 0 4 (l.map Entry.enc)]) : List AV × Heap))
    (fun i _ x => if decide (x.ticket = t) = true then .done (i : Int) else .next ()) (fun _ => -1) (fun z (q : Int) => z ([.t (tI q)], [.row false 0 4 (l.map Entry.enc)])) (fun _ _ => True) () rfl trivial (find_run0 _ l)
    (fun i s x hx hI => Ev.of fun n z again => ?_) (fun _ _ _ _ _ _ _ => trivial) (fun s hI => Ev.of fun n z again => ?_)
  · have hfe : removeQ l t = l.filter fun x => !decide (x.ticket = t) := by unfold removeQ; congr 1; funext x; simp
    rw [hfe]
    rcases idx_cases (fun x : Entry => decide (x.ticket = t)) l with ⟨hi, hn⟩ | ⟨i, x, hi, hx, hp, hb⟩
    · rw [hi] at k1
      refine ((s1000048 (l.map Entry.enc) (by simp; omega)).and k1).mono fun n h => ?_
      simp only [h.1, h.2, vI_mk, vB_mk, vS_mk, vL_mk, sVer_mk, sOff_mk, sLen_mk, oVer_mk, oEs_mk, cI_mk, cB_mk, cS_mk, cL_mk, cVer_mk, cOff_mk, cLen_mk, gI_zero, gI_succ, gB_zero, gB_succ, gS_zero, gS_succ, gL_zero, gL_succ, okI_zero, okI_succ, okB_zero, okB_succ, okS_zero, okS_succ, okL_zero, okL_succ, isIntT_int, isBoolT_bool, isStrT_str, isSlT_sl, intOf_int, boolOf_bool, strOf_str, slOf_sl, treeOf_t, srVer_sref, srOff_sref, srLen_sref, ver_row, esOf_row, cellOf_box, aI_mk, aB_mk, aS_mk, aL_mk, aggOf_agg, join_eq, List.getD_cons_zero, List.getD_cons_succ, decide_true, decide_false, cnd_true, cnd_false, true_and, and_true, false_and, and_false, Option.bind_some, Option.bind_none, List.length_cons, List.length_nil, List.length_map, List.getElem?_map, Option.map_some, Option.map_none, Int.toNat_natCast, reduceCtorEq, eq_self, if_true, if_false, Nat.zero_add, Nat.reduceAdd, Nat.reduceEqDiff, Int.natCast_nonneg, List.drop_zero, or_true, true_or, or_false, false_or, Bool.not_true, Bool.not_false, Bool.false_eq_true, decide_eq_true_eq, ge_iff_le, gt_iff_lt, J29_3, beq_self_eq_true]
      have e1 : List.take l.length (l.map Entry.enc) = l.map Entry.enc := List.take_of_length_le (by simp)
      have e2 : l.filter (fun x => !decide (x.ticket = t)) = l := filter_none fun j y _ hy => hn y (List.mem_of_getElem? hy)
      rw [e1, e2]
    · rw [hi] at k1
      have hil := lt_of_some hx
      have k2 := del_over (R := List Tree) (B := fun n p again => L29_2 n [.sl 4 (l.map Entry.enc)] t p again) (fun (r : List Entry) => [Tree.sl 4 (r.map Entry.enc)]) (fun x => decide (x.ticket = t)) l (fun (s : DS Entry) => (([.t (tI s.i), .t (tI s.j)], [.row false 0 4 (s.es.map Entry.enc)]) : List AV × Heap)) ⟨i, i + 1, l⟩ rfl (DInv.start hx hp hb) (fun s hD => Ev.of fun n again => ?_)
      · refine ((s1000048 (l.map Entry.enc) (by simp; omega)).and (k1.and k2)).mono fun n h => ?_
        obtain ⟨h1, h2, h3⟩ := h
        simp only [h1, h2, vI_mk, vB_mk, vS_mk, vL_mk, sVer_mk, sOff_mk, sLen_mk, oVer_mk, oEs_mk, cI_mk, cB_mk, cS_mk, cL_mk, cVer_mk, cOff_mk, cLen_mk, gI_zero, gI_succ, gB_zero, gB_succ, gS_zero, gS_succ, gL_zero, gL_succ, okI_zero, okI_succ, okB_zero, okB_succ, okS_zero, okS_succ, okL_zero, okL_succ, isIntT_int, isBoolT_bool, isStrT_str, isSlT_sl, intOf_int, boolOf_bool, strOf_str, slOf_sl, treeOf_t, srVer_sref, srOff_sref, srLen_sref, ver_row, esOf_row, cellOf_box, aI_mk, aB_mk, aS_mk, aL_mk, aggOf_agg, join_eq, List.getD_cons_zero, List.getD_cons_succ, decide_true, decide_false, cnd_true, cnd_false, true_and, and_true, false_and, and_false, Option.bind_some, Option.bind_none, List.length_cons, List.length_nil, List.length_map, List.getElem?_map, Option.map_some, Option.map_none, Int.toNat_natCast, reduceCtorEq, eq_self, if_true, if_false, Nat.zero_add, Nat.reduceAdd, Nat.reduceEqDiff, Int.natCast_nonneg, List.drop_zero, or_true, true_or, or_false, false_or, Bool.not_true, Bool.not_false, Bool.false_eq_true, decide_eq_true_eq, ge_iff_le, gt_iff_lt, J29_3, (show (((i : Nat) : Int) == -1) = false by simp), w64_succ (show i < 4611686018427387904 by omega)]
        exact h3
      · have hat := hD.at
        obtain ⟨i', j, es⟩ := s
        obtain ⟨d1, d2, d3, d4, d5⟩ := hD
        simp only at d1 d2 d3 d4 d5 hat
        unfold dstep
        simp only
        cases hy : l[j]? with
        | none =>
          have hj : l.length ≤ j := by simpa using hy
          simp only [L29_2, vI_mk, vB_mk, vS_mk, vL_mk, sVer_mk, sOff_mk, sLen_mk, oVer_mk, oEs_mk, cI_mk, cB_mk, cS_mk, cL_mk, cVer_mk, cOff_mk, cLen_mk, gI_zero, gI_succ, gB_zero, gB_succ, gS_zero, gS_succ, gL_zero, gL_succ, okI_zero, okI_succ, okB_zero, okB_succ, okS_zero, okS_succ, okL_zero, okL_succ, isIntT_int, isBoolT_bool, isStrT_str, isSlT_sl, intOf_int, boolOf_bool, strOf_str, slOf_sl, treeOf_t, srVer_sref, srOff_sref, srLen_sref, ver_row, esOf_row, cellOf_box, aI_mk, aB_mk, aS_mk, aL_mk, aggOf_agg, join_eq, List.getD_cons_zero, List.getD_cons_succ, decide_true, decide_false, cnd_true, cnd_false, true_and, and_true, false_and, and_false, Option.bind_some, Option.bind_none, List.length_cons, List.length_nil, List.length_map, List.getElem?_map, Option.map_some, Option.map_none, Int.toNat_natCast, reduceCtorEq, eq_self, if_true, if_false, Nat.zero_add, Nat.reduceAdd, Nat.reduceEqDiff, Int.natCast_nonneg, List.drop_zero, or_true, true_or, or_false, false_or, Bool.not_true, Bool.not_false, Bool.false_eq_true, decide_eq_true_eq, ge_iff_le, gt_iff_lt, (show ¬ (j : Int) < (l.length : Int) by omega), d3, (show (i' : Int) ≤ (l.length : Int) by omega), (show i' < l.length by omega), Rd.go_done, rowLen d3 (show i' ≤ l.length by omega), rowTail d3 (show i' ≤ l.length by omega)]
        | some y =>
          have hj := lt_of_some hy
          have hi2 : es[i']? = some es[i'] := List.getElem?_eq_getElem (by omega)
          simp only [L29_2, vI_mk, vB_mk, vS_mk, vL_mk, sVer_mk, sOff_mk, sLen_mk, oVer_mk, oEs_mk, cI_mk, cB_mk, cS_mk, cL_mk, cVer_mk, cOff_mk, cLen_mk, gI_zero, gI_succ, gB_zero, gB_succ, gS_zero, gS_succ, gL_zero, gL_succ, okI_zero, okI_succ, okB_zero, okB_succ, okS_zero, okS_succ, okL_zero, okL_succ, isIntT_int, isBoolT_bool, isStrT_str, isSlT_sl, intOf_int, boolOf_bool, strOf_str, slOf_sl, treeOf_t, srVer_sref, srOff_sref, srLen_sref, ver_row, esOf_row, cellOf_box, aI_mk, aB_mk, aS_mk, aL_mk, aggOf_agg, join_eq, List.getD_cons_zero, List.getD_cons_succ, decide_true, decide_false, cnd_true, cnd_false, true_and, and_true, false_and, and_false, Option.bind_some, Option.bind_none, List.length_cons, List.length_nil, List.length_map, List.getElem?_map, Option.map_some, Option.map_none, Int.toNat_natCast, reduceCtorEq, eq_self, if_true, if_false, Nat.zero_add, Nat.reduceAdd, Nat.reduceEqDiff, Int.natCast_nonneg, List.drop_zero, or_true, true_or, or_false, false_or, Bool.not_true, Bool.not_false, Bool.false_eq_true, decide_eq_true_eq, ge_iff_le, gt_iff_lt, (show (j : Int) < (l.length : Int) by omega), hat, hy, hi2, Entry.enc, (show (i' : Int) < (l.length : Int) by omega), Nat.le_refl, w64_succ (show i' < 4611686018427387904 by omega), w64_succ (show j < 4611686018427387904 by omega), List.drop_succ_cons, List.append_nil]
          by_cases hpy : y.ticket = t
          · have : (y.ticket == t) = true := by simpa using hpy
            simp [this, hpy, cnd_eq, Rd.go_next]
          · have : (y.ticket == t) = false := by simpa using hpy
            simp [this, hpy, cnd_eq, Rd.go_next, List.map_set, Entry.enc]
  · have hi := lt_of_some hx
    simp only [L29_1, vI_mk, vB_mk, vS_mk, vL_mk, sVer_mk, sOff_mk, sLen_mk, oVer_mk, oEs_mk, cI_mk, cB_mk, cS_mk, cL_mk, cVer_mk, cOff_mk, cLen_mk, gI_zero, gI_succ, gB_zero, gB_succ, gS_zero, gS_succ, gL_zero, gL_succ, okI_zero, okI_succ, okB_zero, okB_succ, okS_zero, okS_succ, okL_zero, okL_succ, isIntT_int, isBoolT_bool, isStrT_str, isSlT_sl, intOf_int, boolOf_bool, strOf_str, slOf_sl, treeOf_t, srVer_sref, srOff_sref, srLen_sref, ver_row, esOf_row, cellOf_box, aI_mk, aB_mk, aS_mk, aL_mk, aggOf_agg, join_eq, List.getD_cons_zero, List.getD_cons_succ, decide_true, decide_false, cnd_true, cnd_false, true_and, and_true, false_and, and_false, Option.bind_some, Option.bind_none, List.length_cons, List.length_nil, List.length_map, List.getElem?_map, Option.map_some, Option.map_none, Int.toNat_natCast, reduceCtorEq, eq_self, if_true, if_false, Nat.zero_add, Nat.reduceAdd, Nat.reduceEqDiff, Int.natCast_nonneg, List.drop_zero, or_true, true_or, or_false, false_or, Bool.not_true, Bool.not_false, Bool.false_eq_true, decide_eq_true_eq, ge_iff_le, gt_iff_lt, hx, Entry.enc, (show (i : Int) < l.length by omega), w64_succ (show i < 4611686018427387904 by omega)]
    by_cases h : x.ticket = t <;> simp [h, cnd_eq, Rd.go_next, Rd.go_done]
  · simp only [L29_1, vI_mk, vB_mk, vS_mk, vL_mk, sVer_mk, sOff_mk, sLen_mk, oVer_mk, oEs_mk, cI_mk, cB_mk, cS_mk, cL_mk, cVer_mk, cOff_mk, cLen_mk, gI_zero, gI_succ, gB_zero, gB_succ, gS_zero, gS_succ, gL_zero, gL_succ, okI_zero, okI_succ, okB_zero, okB_succ, okS_zero, okS_succ, okL_zero, okL_succ, isIntT_int, isBoolT_bool, isStrT_str, isSlT_sl, intOf_int, boolOf_bool, strOf_str, slOf_sl, treeOf_t, srVer_sref, srOff_sref, srLen_sref, ver_row, esOf_row, cellOf_box, aI_mk, aB_mk, aS_mk, aL_mk, aggOf_agg, join_eq, List.getD_cons_zero, List.getD_cons_succ, decide_true, decide_false, cnd_true, cnd_false, true_and, and_true, false_and, and_false, Option.bind_some, Option.bind_none, List.length_cons, List.length_nil, List.length_map, List.getElem?_map, Option.map_some, Option.map_none, Int.toNat_natCast, reduceCtorEq, eq_self, if_true, if_false, Nat.zero_add, Nat.reduceAdd, Nat.reduceEqDiff, Int.natCast_nonneg, List.drop_zero, or_true, true_or, or_false, false_or, Bool.not_true, Bool.not_false, Bool.false_eq_true, decide_eq_true_eq, ge_iff_le, gt_iff_lt, Int.lt_irrefl]
theorem s1000029 (l : List Entry) (t : Int) (hl : l.length ≤ 1000000) : Runs C 1000029 [.sl 4 (l.map Entry.enc), tI t] [.sl 4 ((removeQ l t).map Entry.enc)] := by
  refine Runs.of (fun n => e1000029 n _ _) ?_
  have k1 := loop_overZ (R := List Tree) (Z := List AV × Heap → Option (List Tree)) (B := fun n z p again => L1000029_1 n [.sl 4 (l.map Entry.enc)] t z p again) (s := (([.t (tI 0)], [.row false 0 4 (l.map Entry.enc)]) : List AV × Heap)) l (fun i (_ : Unit) => (([.t (tI i)], [.row false 0 4 (l.map Entry.enc)]) : List AV × Heap))
    (fun i _ x => if decide (x.ticket = t) = true then .done (i : Int) else .next ()) (fun _ => -1) (fun z (q : Int) => z ([.t (tI q)], [.row false 0 4 (l.map Entry.enc)])) (fun _ _ => True) () rfl trivial (find_run0 _ l)
    (fun i s x hx hI => Ev.of fun n z again => ?_) (fun _ _ _ _ _ _ _ => trivial) (fun s hI => Ev.of fun n z again => ?_)
  · have hfe : removeQ l t = l.filter fun x => !decide (x.ticket = t) := by unfold removeQ; congr 1; funext x; simp
    rw [hfe]
    rcases idx_cases (fun x : Entry => decide (x.ticket = t)) l with ⟨hi, hn⟩ | ⟨i, x, hi, hx, hp, hb⟩
    · rw [hi] at k1
      refine ((s1000048 (l.map Entry.enc) (by simp; omega)).and k1).mono fun n h => ?_
      simp only [h.1, h.2, vI_mk, vB_mk, vS_mk, vL_mk, sVer_mk, sOff_mk, sLen_mk, oVer_mk, oEs_mk, cI_mk, cB_mk, cS_mk, cL_mk, cVer_mk, cOff_mk, cLen_mk, gI_zero, gI_succ, gB_zero, gB_succ, gS_zero, gS_succ, gL_zero, gL_succ, okI_zero, okI_succ, okB_zero, okB_succ, okS_zero, okS_succ, okL_zero, okL_succ, isIntT_int, isBoolT_bool, isStrT_str, isSlT_sl, intOf_int, boolOf_bool, strOf_str, slOf_sl, treeOf_t, srVer_sref, srOff_sref, srLen_sref, ver_row, esOf_row, cellOf_box, aI_mk, aB_mk, aS_mk, aL_mk, aggOf_agg, join_eq, List.getD_cons_zero, List.getD_cons_succ, decide_true, decide_false, cnd_true, cnd_false, true_and, and_true, false_and, and_false, Option.bind_some, Option.bind_none, List.length_cons, List.length_nil, List.length_map, List.getElem?_map, Option.map_some, Option.map_none, Int.toNat_natCast, reduceCtorEq, eq_self, if_true, if_false, Nat.zero_add, Nat.reduceAdd, Nat.reduceEqDiff, Int.natCast_nonneg, List.drop_zero, or_true, true_or, or_false, false_or, Bool.not_true, Bool.not_false, Bool.false_eq_true, decide_eq_true_eq, ge_iff_le, gt_iff_lt, J1000029_3, beq_self_eq_true]
      have e1 : List.take l.length (l.map Entry.enc) = l.map Entry.enc := List.take_of_length_le (by simp)
      have e2 : l.filter (fun x => !decide (x.ticket = t)) = l := filter_none fun j y _ hy => hn y (List.mem_of_getElem? hy)
      rw [e1, e2]
    · rw [hi] at k1
      have hil := lt_of_some hx
      have k2 := del_over (R := List Tree) (B := fun n p again => L1000029_2 n [.sl 4 (l.map Entry.enc)] t p again) (fun (r : List Entry) => [Tree.sl 4 (r.map Entry.enc)]) (fun x => decide (x.ticket = t)) l (fun (s : DS Entry) => (([.t (tI s.i), .t (tI s.j)], [.row false 0 4 (s.es.map Entry.enc)]) : List AV × Heap)) ⟨i, i + 1, l⟩ rfl (DInv.start hx hp hb) (fun s hD => Ev.of fun n again => ?_)
      · refine ((s1000048 (l.map Entry.enc) (by simp; omega)).and (k1.and k2)).mono fun n h => ?_
        obtain ⟨h1, h2, h3⟩ := h
        simp only [h1, h2, vI_mk, vB_mk, vS_mk, vL_mk, sVer_mk, sOff_mk, sLen_mk, oVer_mk, oEs_mk, cI_mk, cB_mk, cS_mk, cL_mk, cVer_mk, cOff_mk, cLen_mk, gI_zero, gI_succ, gB_zero, gB_succ, gS_zero, gS_succ, gL_zero, gL_succ, okI_zero, okI_succ, okB_zero, okB_succ, okS_zero, okS_succ, okL_zero, okL_succ, isIntT_int, isBoolT_bool, isStrT_str, isSlT_sl, intOf_int, boolOf_bool, strOf_str, slOf_sl, treeOf_t, srVer_sref, srOff_sref, srLen_sref, ver_row, esOf_row, cellOf_box, aI_mk, aB_mk, aS_mk, aL_mk, aggOf_agg, join_eq, List.getD_cons_zero, List.getD_cons_succ, decide_true, decide_false, cnd_true, cnd_false, true_and, and_true, false_and, and_false, Option.bind_some, Option.bind_none, List.length_cons, List.length_nil, List.length_map, List.getElem?_map, Option.map_some, Option.map_none, Int.toNat_natCast, reduceCtorEq, eq_self, if_true, if_false, Nat.zero_add, Nat.reduceAdd, Nat.reduceEqDiff, Int.natCast_nonneg, List.drop_zero, or_true, true_or, or_false, false_or, Bool.not_true, Bool.not_false, Bool.false_eq_true, decide_eq_true_eq, ge_iff_le, gt_iff_lt, J1000029_3, (show (((i : Nat) : Int) == -1) = false by simp), w64_succ (show i < 4611686018427387904 by omega)]
        exact h3
      · have hat := hD.at
        obtain ⟨i', j, es⟩ := s
        obtain ⟨d1, d2, d3, d4, d5⟩ := hD
        simp only at d1 d2 d3 d4 d5 hat
        unfold dstep
        simp only
        cases hy : l[j]? with
        | none =>
          have hj : l.length ≤ j := by simpa using hy
          simp only [L1000029_2, vI_mk, vB_mk, vS_mk, vL_mk, sVer_mk, sOff_mk, sLen_mk, oVer_mk, oEs_mk, cI_mk, cB_mk, cS_mk, cL_mk, cVer_mk, cOff_mk, cLen_mk, gI_zero, gI_succ, gB_zero, gB_succ, gS_zero, gS_succ, gL_zero, gL_succ, okI_zero, okI_succ, okB_zero, okB_succ, okS_zero, okS_succ, okL_zero, okL_succ, isIntT_int, isBoolT_bool, isStrT_str, isSlT_sl, intOf_int, boolOf_bool, strOf_str, slOf_sl, treeOf_t, srVer_sref, srOff_sref, srLen_sref, ver_row, esOf_row, cellOf_box, aI_mk, aB_mk, aS_mk, aL_mk, aggOf_agg, join_eq, List.getD_cons_zero, List.getD_cons_succ, decide_true, decide_false, cnd_true, cnd_false, true_and, and_true, false_and, and_false, Option.bind_some, Option.bind_none, List.length_cons, List.length_nil, List.length_map, List.getElem?_map, Option.map_some, Option.map_none, Int.toNat_natCast, reduceCtorEq, eq_self, if_true, if_false, Nat.zero_add, Nat.reduceAdd, Nat.reduceEqDiff, Int.natCast_nonneg, List.drop_zero, or_true, true_or, or_false, false_or, Bool.not_true, Bool.not_false, Bool.false_eq_true, decide_eq_true_eq, ge_iff_le, gt_iff_lt, (show ¬ (j : Int) < (l.length : Int) by omega), d3, (show (i' : Int) ≤ (l.length : Int) by omega), (show i' < l.length by omega), Rd.go_done, rowLen d3 (show i' ≤ l.length by omega), rowTail d3 (show i' ≤ l.length by omega)]
        | some y =>
          have hj := lt_of_some hy
          have hi2 : es[i']? = some es[i'] := List.getElem?_eq_getElem (by omega)
          simp only [L1000029_2, vI_mk, vB_mk, vS_mk, vL_mk, sVer_mk, sOff_mk, sLen_mk, oVer_mk, oEs_mk, cI_mk, cB_mk, cS_mk, cL_mk, cVer_mk, cOff_mk, cLen_mk, gI_zero, gI_succ, gB_zero, gB_succ, gS_zero, gS_succ, gL_zero, gL_succ, okI_zero, okI_succ, okB_zero, okB_succ, okS_zero, okS_succ, okL_zero, okL_succ, isIntT_int, isBoolT_bool, isStrT_str, isSlT_sl, intOf_int, boolOf_bool, strOf_str, slOf_sl, treeOf_t, srVer_sref, srOff_sref, srLen_sref, ver_row, esOf_row, cellOf_box, aI_mk, aB_mk, aS_mk, aL_mk, aggOf_agg, join_eq, List.getD_cons_zero, List.getD_cons_succ, decide_true, decide_false, cnd_true, cnd_false, true_and, and_true, false_and, and_false, Option.bind_some, Option.bind_none, List.length_cons, List.length_nil, List.length_map, List.getElem?_map, Option.map_some, Option.map_none, Int.toNat_natCast, reduceCtorEq, eq_self, if_true, if_false, Nat.zero_add, Nat.reduceAdd, Nat.reduceEqDiff, Int.natCast_nonneg, List.drop_zero, or_true, true_or, or_false, false_or, Bool.not_true, Bool.not_false, Bool.false_eq_true, decide_eq_true_eq, ge_iff_le, gt_iff_lt, (show (j : Int) < (l.length : Int) by omega), hat, hy, hi2, Entry.enc, (show (i' : Int) < (l.length : Int) by omega), Nat.le_refl, w64_succ (show i' < 4611686018427387904 by omega), w64_succ (show j < 4611686018427387904 by omega), List.drop_succ_cons, List.append_nil]
          by_cases hpy : y.ticket = t
          · have : (y.ticket == t) = true := by simpa using hpy
            simp [this, hpy, cnd_eq, Rd.go_next]
          · have : (y.ticket == t) = false := by simpa using hpy
            simp [this, hpy, cnd_eq, Rd.go_next, List.map_set, Entry.enc]
  · have hi := lt_of_some hx
    simp only [L1000029_1, vI_mk, vB_mk, vS_mk, vL_mk, sVer_mk, sOff_mk, sLen_mk, oVer_mk, oEs_mk, cI_mk, cB_mk, cS_mk, cL_mk, cVer_mk, cOff_mk, cLen_mk, gI_zero, gI_succ, gB_zero, gB_succ, gS_zero, gS_succ, gL_zero, gL_succ, okI_zero, okI_succ, okB_zero, okB_succ, okS_zero, okS_succ, okL_zero, okL_succ, isIntT_int, isBoolT_bool, isStrT_str, isSlT_sl, intOf_int, boolOf_bool, strOf_str, slOf_sl, treeOf_t, srVer_sref, srOff_sref, srLen_sref, ver_row, esOf_row, cellOf_box, aI_mk, aB_mk, aS_mk, aL_mk, aggOf_agg, join_eq, List.getD_cons_zero, List.getD_cons_succ, decide_true, decide_false, cnd_true, cnd_false, true_and, and_true, false_and, and_false, Option.bind_some, Option.bind_none, List.length_cons, List.length_nil, List.length_map, List.getElem?_map, Option.map_some, Option.map_none, Int.toNat_natCast, reduceCtorEq, eq_self, if_true, if_false, Nat.zero_add, Nat.reduceAdd, Nat.reduceEqDiff, Int.natCast_nonneg, List.drop_zero, or_true, true_or, or_false, false_or, Bool.not_true, Bool.not_false, Bool.false_eq_true, decide_eq_true_eq, ge_iff_le, gt_iff_lt, hx, Entry.enc, (show (i : Int) < l.length by omega), w64_succ (show i < 4611686018427387904 by omega)]
    by_cases h : x.ticket = t <;> simp [h, cnd_eq, Rd.go_next, Rd.go_done]
  · simp only [L1000029_1, vI_mk, vB_mk, vS_mk, vL_mk, sVer_mk, sOff_mk, sLen_mk, oVer_mk, oEs_mk, cI_mk, cB_mk, cS_mk, cL_mk, cVer_mk, cOff_mk, cLen_mk, gI_zero, gI_succ, gB_zero, gB_succ, gS_zero, gS_succ, gL_zero, gL_succ, okI_zero, okI_succ, okB_zero, okB_succ, okS_zero, okS_succ, okL_zero, okL_succ, isIntT_int, isBoolT_bool, isStrT_str, isSlT_sl, intOf_int, boolOf_bool, strOf_str, slOf_sl, treeOf_t, srVer_sref, srOff_sref, srLen_sref, ver_row, esOf_row, cellOf_box, aI_mk, aB_mk, aS_mk, aL_mk, aggOf_agg, join_eq, List.getD_cons_zero, List.getD_cons_succ, decide_true, decide_false, cnd_true, cnd_false, true_and, and_true, false_and, and_false, Option.bind_some, Option.bind_none, List.length_cons, List.length_nil, List.length_map, List.getElem?_map, Option.map_some, Option.map_none, Int.toNat_natCast, reduceCtorEq, eq_self, if_true, if_false, Nat.zero_add, Nat.reduceAdd, Nat.reduceEqDiff, Int.natCast_nonneg, List.drop_zero, or_true, true_or, or_false, false_or, Bool.not_true, Bool.not_false, Bool.false_eq_true, decide_eq_true_eq, ge_iff_le, gt_iff_lt, Int.lt_irrefl]
end Ab
