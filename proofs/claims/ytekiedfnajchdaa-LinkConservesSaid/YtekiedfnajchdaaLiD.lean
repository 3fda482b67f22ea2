/- Link: play runs; the laws Order and Conserves. -/
import Derived.Test.YtekiedfnajchdaaLiC
import Derived.Test.YtekiedfnajchdaaLiY5
set_option linter.unusedVariables false
set_option linter.unusedSimpArgs false
namespace Ab
open Go

theorem u8w (x : Int) (h : 0 ≤ x ∧ x ≤ 255) : w64 x = x := w64_id (by omega) (by omega)
theorem isU8 (x : Int) : isIntT .u8 (.int .u8 x) = true := isIntT_int _ _
/-- The second half of play: all frames are received. -/
theorem recv (a1 : List (List Tree)) (zs : List AV) (c : Chan) (hc : GoodC c) (sent : List Int) (L : Nat) (hL : c.frames.length ≤ 2 * a1.length) (ha : a1.length ≤ 1000) (z0 z1 z2 z3 : Tree) (hz : zs = [.t (tI 0), .t (.sl 10 []), .t (tI 0), .t (tI 0)]) :
    Ev fun n => ∀ z, loopIter (fun p again => L10_1 n a1 z p again) n ([.sref 3 0 0 0, .t (tI 0)], [.box zs, .box [.t (tI c.rng), .t (.sl 10 (c.frames.map Frame.enc)), .t (tI c.sent), .t (tI c.lost)], .row false L 1 (sent.map encI), .row false 0 10 []])
      = z ([.sref 3 c.frames.length 0 c.frames.length], [.box zs, .box [.t (tI c.rng), .t (.sl 10 []), .t (tI c.sent), .t (tI c.lost)], .row false L 1 (sent.map encI), .row false c.frames.length 10 (c.frames.map Frame.enc)]) := by
  subst hz
  have hw2 : w64 (2 * (a1.length : Int)) = ((2 * a1.length : Nat) : Int) := by rw [w64_id (by omega) (by omega)]; omega
  refine loop_overZ (R := List Tree) (Z := List AV × Heap → Option (List Tree)) (B := fun n z p again => L10_1 n a1 z p again) (r := ()) c.frames
    (fun i (_ : Unit) => (([.sref 3 i 0 i, .t (tI i)], [.box [.t (tI 0), .t (.sl 10 []), .t (tI 0), .t (tI 0)], .box [.t (tI c.rng), .t (.sl 10 ((c.frames.drop i).map Frame.enc)), .t (tI c.sent), .t (tI c.lost)], .row false L 1 (sent.map encI), .row false i 10 ((c.frames.take i).map Frame.enc)]) : List AV × Heap))
    (fun _ _ _ => .next ()) (fun _ => ()) (fun z _ => z ([.sref 3 c.frames.length 0 c.frames.length], [.box [.t (tI 0), .t (.sl 10 []), .t (tI 0), .t (tI 0)], .box [.t (tI c.rng), .t (.sl 10 []), .t (tI c.sent), .t (tI c.lost)], .row false L 1 (sent.map encI), .row false c.frames.length 10 (c.frames.map Frame.enc)])) (fun _ _ => True) () rfl trivial (runL_fold (fun _ _ => ()) (fun _ => ()) 0 _ ())
    (fun i s f hx hI => ?_) (fun _ _ _ _ _ _ _ => trivial) (fun s hI => ?_)
  · have hi := lt_of_some hx
    have hd : c.frames.drop i = f :: c.frames.drop (i + 1) := by
      rw [List.drop_eq_getElem_cons hi]
      rw [List.getElem?_eq_getElem hi] at hx
      cases hx
      rfl
    have ht : c.frames.take (i + 1) = c.frames.take i ++ [f] := by rw [List.take_add_one, hx]; rfl
    have hl1 : (c.frames.take i).length = i := by simp; omega
    have e1 : List.take i (List.map Frame.enc (c.frames.take i)) = List.map Frame.enc (c.frames.take i) := List.take_of_length_le (by rw [List.length_map, hl1]; omega)
    refine (s18 (dropC c i) (good_drop hc i) f _ hd).mono fun n h z again => ?_
    simp only [Chan.enc, dropC, hd, List.map_cons] at h
    have hlt : i < 2 * a1.length := by omega
    rw [hd]
    simp only [L10_1, vI_mk, vB_mk, vS_mk, vL_mk, sVer_mk, sOff_mk, sLen_mk, oVer_mk, oEs_mk, cI_mk, cB_mk, cS_mk, cL_mk, cVer_mk, cOff_mk, cLen_mk, gI_zero, gI_succ, gB_zero, gB_succ, gS_zero, gS_succ, gL_zero, gL_succ, okI_zero, okI_succ, okB_zero, okB_succ, okS_zero, okS_succ, okL_zero, okL_succ, isIntT_int, isBoolT_bool, isStrT_str, isSlT_sl, intOf_int, boolOf_bool, strOf_str, slOf_sl, treeOf_t, srVer_sref, srOff_sref, srLen_sref, ver_row, esOf_row, cellOf_box, aI_mk, aB_mk, aS_mk, aL_mk, aggOf_agg, join_eq, List.getD_cons_zero, List.getD_cons_succ, decide_true, decide_false, cnd_true, cnd_false, true_and, and_true, false_and, and_false, Option.bind_some, Option.bind_none, List.length_cons, List.length_nil, List.length_map, List.getElem?_map, Option.map_some, Option.map_none, Int.toNat_natCast, reduceCtorEq, eq_self, if_true, if_false, Nat.zero_add, Nat.reduceAdd, Nat.reduceEqDiff, Int.natCast_nonneg, List.drop_zero, or_true, true_or, or_false, false_or, Bool.not_true, Bool.not_false, Bool.false_eq_true, decide_eq_true_eq, ge_iff_le, gt_iff_lt, hw2, (show (i : Int) < ((2 * a1.length : Nat) : Int) by omega), List.map_cons, h, bne_self_eq_false, hl1, Nat.le_refl, (show i + 1 ≤ 1073741824 by have := hc.len; omega), w64_succ (show i < 4611686018427387904 by have := hc.len; omega), Rd.go_next, ht, List.map_append, List.map_nil, e1]
    simp only [Frame.enc]
  · refine (s18e (dropC c c.frames.length) (good_drop hc _) (by simp [dropC])).mono fun n h z again => ?_
    simp only [Chan.enc, dropC, List.drop_length, List.map_nil] at h
    simp only [L10_1, vI_mk, vB_mk, vS_mk, vL_mk, sVer_mk, sOff_mk, sLen_mk, oVer_mk, oEs_mk, cI_mk, cB_mk, cS_mk, cL_mk, cVer_mk, cOff_mk, cLen_mk, gI_zero, gI_succ, gB_zero, gB_succ, gS_zero, gS_succ, gL_zero, gL_succ, okI_zero, okI_succ, okB_zero, okB_succ, okS_zero, okS_succ, okL_zero, okL_succ, isIntT_int, isBoolT_bool, isStrT_str, isSlT_sl, intOf_int, boolOf_bool, strOf_str, slOf_sl, treeOf_t, srVer_sref, srOff_sref, srLen_sref, ver_row, esOf_row, cellOf_box, aI_mk, aB_mk, aS_mk, aL_mk, aggOf_agg, join_eq, List.getD_cons_zero, List.getD_cons_succ, decide_true, decide_false, cnd_true, cnd_false, true_and, and_true, false_and, and_false, Option.bind_some, Option.bind_none, List.length_cons, List.length_nil, List.length_map, List.getElem?_map, Option.map_some, Option.map_none, Int.toNat_natCast, reduceCtorEq, eq_self, if_true, if_false, Nat.zero_add, Nat.reduceAdd, Nat.reduceEqDiff, Int.natCast_nonneg, List.drop_zero, or_true, true_or, or_false, false_or, Bool.not_true, Bool.not_false, Bool.false_eq_true, decide_eq_true_eq, ge_iff_le, gt_iff_lt, hw2, List.drop_length, List.map_nil, List.take_length]
    by_cases hlt : (c.frames.length : Int) < ((2 * a1.length : Nat) : Int)
    · simp only [hlt, h, vI_mk, vB_mk, vS_mk, vL_mk, sVer_mk, sOff_mk, sLen_mk, oVer_mk, oEs_mk, cI_mk, cB_mk, cS_mk, cL_mk, cVer_mk, cOff_mk, cLen_mk, gI_zero, gI_succ, gB_zero, gB_succ, gS_zero, gS_succ, gL_zero, gL_succ, okI_zero, okI_succ, okB_zero, okB_succ, okS_zero, okS_succ, okL_zero, okL_succ, isIntT_int, isBoolT_bool, isStrT_str, isSlT_sl, intOf_int, boolOf_bool, strOf_str, slOf_sl, treeOf_t, srVer_sref, srOff_sref, srLen_sref, ver_row, esOf_row, cellOf_box, aI_mk, aB_mk, aS_mk, aL_mk, aggOf_agg, join_eq, List.getD_cons_zero, List.getD_cons_succ, decide_true, decide_false, cnd_true, cnd_false, true_and, and_true, false_and, and_false, Option.bind_some, Option.bind_none, List.length_cons, List.length_nil, List.length_map, List.getElem?_map, Option.map_some, Option.map_none, Int.toNat_natCast, reduceCtorEq, eq_self, if_true, if_false, Nat.zero_add, Nat.reduceAdd, Nat.reduceEqDiff, Int.natCast_nonneg, List.drop_zero, or_true, true_or, or_false, false_or, Bool.not_true, Bool.not_false, Bool.false_eq_true, decide_eq_true_eq, ge_iff_le, gt_iff_lt, show ((20 : Int) != 0) = true from rfl]
    · simp only [hlt, vI_mk, vB_mk, vS_mk, vL_mk, sVer_mk, sOff_mk, sLen_mk, oVer_mk, oEs_mk, cI_mk, cB_mk, cS_mk, cL_mk, cVer_mk, cOff_mk, cLen_mk, gI_zero, gI_succ, gB_zero, gB_succ, gS_zero, gS_succ, gL_zero, gL_succ, okI_zero, okI_succ, okB_zero, okB_succ, okS_zero, okS_succ, okL_zero, okL_succ, isIntT_int, isBoolT_bool, isStrT_str, isSlT_sl, intOf_int, boolOf_bool, strOf_str, slOf_sl, treeOf_t, srVer_sref, srOff_sref, srLen_sref, ver_row, esOf_row, cellOf_box, aI_mk, aB_mk, aS_mk, aL_mk, aggOf_agg, join_eq, List.getD_cons_zero, List.getD_cons_succ, decide_true, decide_false, cnd_true, cnd_false, true_and, and_true, false_and, and_false, Option.bind_some, Option.bind_none, List.length_cons, List.length_nil, List.length_map, List.getElem?_map, Option.map_some, Option.map_none, Int.toNat_natCast, reduceCtorEq, eq_self, if_true, if_false, Nat.zero_add, Nat.reduceAdd, Nat.reduceEqDiff, Int.natCast_nonneg, List.drop_zero, or_true, true_or, or_false, false_or, Bool.not_true, Bool.not_false, Bool.false_eq_true, decide_eq_true_eq, ge_iff_le, gt_iff_lt]
theorem s10 (r : Int) (hr : 0 ≤ r ∧ r ≤ 255) (l : List Stp) (hl : l.length ≤ 20) (ho : ∀ x ∈ l, x.ok) :
    Runs C 10 [.int .u8 r, .sl 2 (l.map Stp.enc)] [tI (1 + r % 20), .sl 10 [], tI (playS (1 + r % 20) l).c.sent, tI (playS (1 + r % 20) l).c.lost, .sl 1 ((playS (1 + r % 20) l).sent.map encI), .sl 10 ((playS (1 + r % 20) l).c.frames.map Frame.enc), .bool true] := by
  refine Runs.of (fun n => e10 n _ _) ?_
  have hR : w64 (1 + Int.tmod (w64 r) 20) = 1 + r % 20 := by
    rw [u8w r hr, Int.tmod_eq_emod_of_nonneg (by omega), w64_id (by omega) (by omega)]
  have hr' : 1 ≤ 1 + r % 20 ∧ 1 + r % 20 ≤ 1048576 := by omega
  rw [hR]
  generalize 1 + r % 20 = R at hr' ⊢
  refine Ev.rw (T' := ?TT) (s16 R hr') (fun k h => ?g1) ?g2
  case g1 =>
    simp only [h, vI_mk, vB_mk, vS_mk, vL_mk, sVer_mk, sOff_mk, sLen_mk, oVer_mk, oEs_mk, cI_mk, cB_mk, cS_mk, cL_mk, cVer_mk, cOff_mk, cLen_mk, gI_zero, gI_succ, gB_zero, gB_succ, gS_zero, gS_succ, gL_zero, gL_succ, okI_zero, okI_succ, okB_zero, okB_succ, okS_zero, okS_succ, okL_zero, okL_succ, isIntT_int, isBoolT_bool, isStrT_str, isSlT_sl, intOf_int, boolOf_bool, strOf_str, slOf_sl, treeOf_t, srVer_sref, srOff_sref, srLen_sref, ver_row, esOf_row, cellOf_box, aI_mk, aB_mk, aS_mk, aL_mk, aggOf_agg, join_eq, List.getD_cons_zero, List.getD_cons_succ, decide_true, decide_false, cnd_true, cnd_false, true_and, and_true, false_and, and_false, Option.bind_some, Option.bind_none, List.length_cons, List.length_nil, List.length_map, List.getElem?_map, Option.map_some, Option.map_none, Int.toNat_natCast, reduceCtorEq, eq_self, if_true, if_false, Nat.zero_add, Nat.reduceAdd, Nat.reduceEqDiff, Int.natCast_nonneg, List.drop_zero, or_true, true_or, or_false, false_or, Bool.not_true, Bool.not_false, Bool.false_eq_true, decide_eq_true_eq, ge_iff_le, gt_iff_lt]
    rfl
  case g2 =>
    refine loop_overQ (fun (s : PS) => [tI R, .sl 10 [], tI s.c.sent, tI s.c.lost, .sl 1 (s.sent.map encI), .sl 10 (s.c.frames.map Frame.enc), .bool true]) l
      (fun i (s : PS) => (([.t (tI s.at_), .sref 2 i 0 i, .t (tI i)], [.box [.t (tI 0), .t (.sl 10 []), .t (tI 0), .t (tI 0)], .box [.t (tI s.c.rng), .t (.sl 10 (s.c.frames.map Frame.enc)), .t (tI s.c.sent), .t (tI s.c.lost)], .row false i 1 (s.sent.map encI)]) : List AV × Heap))
      (fun _ s x => .next (stepP s x)) (fun s => s) (fun i s => PInv R (l.take i) s) (startP R) rfl (PInv.start hr') (runL_fold stepP (fun s => s) 0 l (startP R))
      (fun i s x hx hI => ?_) (fun i s x s' hx hI hs' => ?_) (fun s hI => ?_)
    · have hi := lt_of_some hx
      have hxo := ho x (List.mem_of_getElem? hx)
      have hlt : (l.take i).length = i := by simp; omega
      have h1 := hI.at0
      have h2 := hI.sent
      have h3 := hI.slen
      have h4 := hI.flen2
      have h5 := hI.good.rng
      rw [hlt] at h1 h2 h3 h4
      have hf2 := fate_len x.fate s.c.rng
      have hxa := hxo.1
      have h17 := s17 s.c hI.good (s.at_ + x.after) i (by omega) (fate x.fate s.c.rng) (fun d hd => fate_mem (by omega) hd) (by omega)
      have hw : w64 (s.at_ + x.after) = s.at_ + x.after := w64_id (by omega) (by omega)
      have e1 : List.take i (List.map encI s.sent) = List.map encI s.sent := List.take_of_length_le (by rw [List.length_map, h3]; omega)
      refine ((s6 x.fate s.c.rng (by have := hxo.2; omega) h5).and h17).mono fun n h again => ?_
      simp only [Chan.enc, List.cons_append, List.nil_append, sendC, h2] at h
      simp only [L10_2, vI_mk, vB_mk, vS_mk, vL_mk, sVer_mk, sOff_mk, sLen_mk, oVer_mk, oEs_mk, cI_mk, cB_mk, cS_mk, cL_mk, cVer_mk, cOff_mk, cLen_mk, gI_zero, gI_succ, gB_zero, gB_succ, gS_zero, gS_succ, gL_zero, gL_succ, okI_zero, okI_succ, okB_zero, okB_succ, okS_zero, okS_succ, okL_zero, okL_succ, isIntT_int, isBoolT_bool, isStrT_str, isSlT_sl, intOf_int, boolOf_bool, strOf_str, slOf_sl, treeOf_t, srVer_sref, srOff_sref, srLen_sref, ver_row, esOf_row, cellOf_box, aI_mk, aB_mk, aS_mk, aL_mk, aggOf_agg, join_eq, List.getD_cons_zero, List.getD_cons_succ, decide_true, decide_false, cnd_true, cnd_false, true_and, and_true, false_and, and_false, Option.bind_some, Option.bind_none, List.length_cons, List.length_nil, List.length_map, List.getElem?_map, Option.map_some, Option.map_none, Int.toNat_natCast, reduceCtorEq, eq_self, if_true, if_false, Nat.zero_add, Nat.reduceAdd, Nat.reduceEqDiff, Int.natCast_nonneg, List.drop_zero, or_true, true_or, or_false, false_or, Bool.not_true, Bool.not_false, Bool.false_eq_true, decide_eq_true_eq, ge_iff_le, gt_iff_lt, hx, Stp.enc, isU8, (show (i : Int) < (l.length : Int) by omega), u8w x.fate hxo.2, u8w x.after hxo.1, hw, h.1, h.2, bne_self_eq_false, h3, Nat.le_refl, (show i + 1 ≤ 1073741824 by omega), w64_succ (show i < 4611686018427387904 by omega), Rd.go_next, e1, stepP, sendC, h2, List.map_append, List.map_cons, List.map_nil, encI]
    · have hi := lt_of_some hx
      simp only [Rd.next.injEq] at hs'
      subst hs'
      have : l.take (i + 1) = l.take i ++ [x] := by rw [List.take_add_one, hx]; rfl
      rw [this]
      exact hI.step (by simp; omega) (ho x (List.mem_of_getElem? hx))
    · rw [List.take_length] at hI
      have h3 := hI.slen
      have h4 := hI.flen2
      have e1 : List.take l.length (List.map encI s.sent) = List.map encI s.sent := List.take_of_length_le (by rw [List.length_map, h3]; omega)
      have e2 : List.take s.c.frames.length (List.map Frame.enc s.c.frames) = List.map Frame.enc s.c.frames := List.take_of_length_le (by simp)
      refine (recv (l.map Stp.enc) _ s.c hI.good s.sent l.length (by simpa using h4) (by simp; omega) (tI 0) (tI 0) (tI 0) (tI 0) rfl).mono fun n h again => ?_
      rw [hI.rng] at h
      simp only [L10_2, vI_mk, vB_mk, vS_mk, vL_mk, sVer_mk, sOff_mk, sLen_mk, oVer_mk, oEs_mk, cI_mk, cB_mk, cS_mk, cL_mk, cVer_mk, cOff_mk, cLen_mk, gI_zero, gI_succ, gB_zero, gB_succ, gS_zero, gS_succ, gL_zero, gL_succ, okI_zero, okI_succ, okB_zero, okB_succ, okS_zero, okS_succ, okL_zero, okL_succ, isIntT_int, isBoolT_bool, isStrT_str, isSlT_sl, intOf_int, boolOf_bool, strOf_str, slOf_sl, treeOf_t, srVer_sref, srOff_sref, srLen_sref, ver_row, esOf_row, cellOf_box, aI_mk, aB_mk, aS_mk, aL_mk, aggOf_agg, join_eq, List.getD_cons_zero, List.getD_cons_succ, decide_true, decide_false, cnd_true, cnd_false, true_and, and_true, false_and, and_false, Option.bind_some, Option.bind_none, List.length_cons, List.length_nil, List.length_map, List.getElem?_map, Option.map_some, Option.map_none, Int.toNat_natCast, reduceCtorEq, eq_self, if_true, if_false, Nat.zero_add, Nat.reduceAdd, Nat.reduceEqDiff, Int.natCast_nonneg, List.drop_zero, or_true, true_or, or_false, false_or, Bool.not_true, Bool.not_false, Bool.false_eq_true, decide_eq_true_eq, ge_iff_le, gt_iff_lt, Int.lt_irrefl, h, e1, e2, beq_self_eq_true, hI.rng]
      simp [cnd_eq]
theorem w64_sent {t R : Int} (h : 0 ≤ t ∧ t ≤ 1000000) (hR : 1 ≤ R ∧ R ≤ 1048576) : w64 (t + R) = t + R ∧ w64 (2 * R) = 2 * R ∧ w64 (t + 2 * R) = t + 2 * R := ⟨w64_id (by omega) (by omega), w64_id (by omega) (by omega), w64_id (by omega) (by omega)⟩
theorem law4 (r : Int) (hr : 0 ≤ r ∧ r ≤ 255) (l : List Stp) (ho : ∀ x ∈ l, x.ok) : Runs C 4 [.int .u8 r, .sl 2 (l.map Stp.enc)] [.bool true] := by
  refine Runs.of (fun n => e4 n _ _) ?_
  by_cases hl : l.length ≤ 20
  · refine Ev.rw (T' := ?TT) (s10 r hr l hl ho) (fun k h => ?g1) ?g2
    case g1 =>
      simp only [h, vI_mk, vB_mk, vS_mk, vL_mk, sVer_mk, sOff_mk, sLen_mk, oVer_mk, oEs_mk, cI_mk, cB_mk, cS_mk, cL_mk, cVer_mk, cOff_mk, cLen_mk, gI_zero, gI_succ, gB_zero, gB_succ, gS_zero, gS_succ, gL_zero, gL_succ, okI_zero, okI_succ, okB_zero, okB_succ, okS_zero, okS_succ, okL_zero, okL_succ, isIntT_int, isBoolT_bool, isStrT_str, isSlT_sl, intOf_int, boolOf_bool, strOf_str, slOf_sl, treeOf_t, srVer_sref, srOff_sref, srLen_sref, ver_row, esOf_row, cellOf_box, aI_mk, aB_mk, aS_mk, aL_mk, aggOf_agg, join_eq, List.getD_cons_zero, List.getD_cons_succ, decide_true, decide_false, cnd_true, cnd_false, true_and, and_true, false_and, and_false, Option.bind_some, Option.bind_none, List.length_cons, List.length_nil, List.length_map, List.getElem?_map, Option.map_some, Option.map_none, Int.toNat_natCast, reduceCtorEq, eq_self, if_true, if_false, Nat.zero_add, Nat.reduceAdd, Nat.reduceEqDiff, Int.natCast_nonneg, List.drop_zero, or_true, true_or, or_false, false_or, Bool.not_true, Bool.not_false, Bool.false_eq_true, decide_eq_true_eq, ge_iff_le, gt_iff_lt, (show ¬ (20 : Int) < (l.length : Int) by omega)]
      rfl
    case g2 =>
      have hr' : 1 ≤ 1 + r % 20 ∧ 1 + r % 20 ≤ 1048576 := by omega
      generalize 1 + r % 20 = R at hr' ⊢
      have hI := PInv.all hr' (show l.length ≤ 1000 by omega) ho
      generalize playS R l = s at hI ⊢
      have h2 := hI.sent
      have h3 := hI.slen
      have h4 := hI.flen2
      refine loop_overQ (fun r => [Tree.bool r]) s.c.frames (fun i (_ : Unit) => (([.t (tI i)], [.box []]) : List AV × Heap)) (fun _ _ _ => .next ()) (fun _ => true) (fun _ _ => True) () rfl trivial (runL_fold (fun _ _ => ()) (fun _ => true) 0 _ ())
        (fun i _ f hx _ => Ev.of fun n again => ?_) (fun _ _ _ _ _ _ _ => trivial) (fun _ _ => ?_)
      · have hi := lt_of_some hx
        obtain ⟨q1, q2, t, q3, q4⟩ := hI.frm f (List.mem_of_getElem? hx)
        have q5 := (hI.good.frm f (List.mem_of_getElem? hx)).2.2
        have ht := hI.sle t (List.mem_of_getElem? q3)
        have hat := hI.at0
        obtain ⟨w1, w2, w3⟩ := w64_sent (t := t) (by omega) hr'
        by_cases hi0 : i = 0
        · subst hi0
          simp only [L4_1, vI_mk, vB_mk, vS_mk, vL_mk, sVer_mk, sOff_mk, sLen_mk, oVer_mk, oEs_mk, cI_mk, cB_mk, cS_mk, cL_mk, cVer_mk, cOff_mk, cLen_mk, gI_zero, gI_succ, gB_zero, gB_succ, gS_zero, gS_succ, gL_zero, gL_succ, okI_zero, okI_succ, okB_zero, okB_succ, okS_zero, okS_succ, okL_zero, okL_succ, isIntT_int, isBoolT_bool, isStrT_str, isSlT_sl, intOf_int, boolOf_bool, strOf_str, slOf_sl, treeOf_t, srVer_sref, srOff_sref, srLen_sref, ver_row, esOf_row, cellOf_box, aI_mk, aB_mk, aS_mk, aL_mk, aggOf_agg, join_eq, List.getD_cons_zero, List.getD_cons_succ, decide_true, decide_false, cnd_true, cnd_false, true_and, and_true, false_and, and_false, Option.bind_some, Option.bind_none, List.length_cons, List.length_nil, List.length_map, List.getElem?_map, Option.map_some, Option.map_none, Int.toNat_natCast, reduceCtorEq, eq_self, if_true, if_false, Nat.zero_add, Nat.reduceAdd, Nat.reduceEqDiff, Int.natCast_nonneg, List.drop_zero, or_true, true_or, or_false, false_or, Bool.not_true, Bool.not_false, Bool.false_eq_true, decide_eq_true_eq, ge_iff_le, gt_iff_lt, hx, Frame.enc, (show ((0 : Nat) : Int) < s.c.frames.length by omega), (show ¬ f.num < 0 by omega), (show ¬ (s.sent.length : Int) ≤ f.num by omega), q1, bne_self_eq_false, (show 0 ≤ f.num by omega), q3, encI, w1, w2, w3, (show ¬ f.arr < t + R by omega), (show ¬ t + 2 * R < f.arr by omega), (show ¬ (0 : Int) < ((0 : Nat) : Int) by omega), w64_succ (show 0 < 4611686018427387904 by omega), Rd.go_next]
        · have hp : s.c.frames[i - 1]? = some s.c.frames[i - 1] := List.getElem?_eq_getElem (by omega)
          have hs := List.pairwise_iff_getElem.1 hI.lex (i - 1) i (by omega) hi (by omega)
          rw [List.getElem?_eq_getElem hi] at hx
          have hx2 := Option.some.inj hx
          rw [hx2] at hs
          rw [← List.getElem?_eq_getElem hi] at hx
          have hne : ¬ f.arr < (s.c.frames[i - 1]).arr := by rcases hs with h | h <;> omega
          simp only [L4_1, vI_mk, vB_mk, vS_mk, vL_mk, sVer_mk, sOff_mk, sLen_mk, oVer_mk, oEs_mk, cI_mk, cB_mk, cS_mk, cL_mk, cVer_mk, cOff_mk, cLen_mk, gI_zero, gI_succ, gB_zero, gB_succ, gS_zero, gS_succ, gL_zero, gL_succ, okI_zero, okI_succ, okB_zero, okB_succ, okS_zero, okS_succ, okL_zero, okL_succ, isIntT_int, isBoolT_bool, isStrT_str, isSlT_sl, intOf_int, boolOf_bool, strOf_str, slOf_sl, treeOf_t, srVer_sref, srOff_sref, srLen_sref, ver_row, esOf_row, cellOf_box, aI_mk, aB_mk, aS_mk, aL_mk, aggOf_agg, join_eq, List.getD_cons_zero, List.getD_cons_succ, decide_true, decide_false, cnd_true, cnd_false, true_and, and_true, false_and, and_false, Option.bind_some, Option.bind_none, List.length_cons, List.length_nil, List.length_map, List.getElem?_map, Option.map_some, Option.map_none, Int.toNat_natCast, reduceCtorEq, eq_self, if_true, if_false, Nat.zero_add, Nat.reduceAdd, Nat.reduceEqDiff, Int.natCast_nonneg, List.drop_zero, or_true, true_or, or_false, false_or, Bool.not_true, Bool.not_false, Bool.false_eq_true, decide_eq_true_eq, ge_iff_le, gt_iff_lt, hx, hp, Frame.enc, (show (i : Int) < s.c.frames.length by omega), (show ¬ f.num < 0 by omega), (show ¬ (s.sent.length : Int) ≤ f.num by omega), q1, bne_self_eq_false, (show 0 ≤ f.num by omega), q3, encI, w1, w2, w3, (show ¬ f.arr < t + R by omega), (show ¬ t + 2 * R < f.arr by omega), (show (0 : Int) < (i : Int) by omega), w64_pred (show i < 4611686018427387904 by omega) (by omega), hne, w64_succ (show i < 4611686018427387904 by omega), Rd.go_next]
          rcases hs with h | h
          · rw [show (f.arr == (s.c.frames[i - 1]).arr) = false by simp; omega]
            simp only [vI_mk, vB_mk, vS_mk, vL_mk, sVer_mk, sOff_mk, sLen_mk, oVer_mk, oEs_mk, cI_mk, cB_mk, cS_mk, cL_mk, cVer_mk, cOff_mk, cLen_mk, gI_zero, gI_succ, gB_zero, gB_succ, gS_zero, gS_succ, gL_zero, gL_succ, okI_zero, okI_succ, okB_zero, okB_succ, okS_zero, okS_succ, okL_zero, okL_succ, isIntT_int, isBoolT_bool, isStrT_str, isSlT_sl, intOf_int, boolOf_bool, strOf_str, slOf_sl, treeOf_t, srVer_sref, srOff_sref, srLen_sref, ver_row, esOf_row, cellOf_box, aI_mk, aB_mk, aS_mk, aL_mk, aggOf_agg, join_eq, List.getD_cons_zero, List.getD_cons_succ, decide_true, decide_false, cnd_true, cnd_false, true_and, and_true, false_and, and_false, Option.bind_some, Option.bind_none, List.length_cons, List.length_nil, List.length_map, List.getElem?_map, Option.map_some, Option.map_none, Int.toNat_natCast, reduceCtorEq, eq_self, if_true, if_false, Nat.zero_add, Nat.reduceAdd, Nat.reduceEqDiff, Int.natCast_nonneg, List.drop_zero, or_true, true_or, or_false, false_or, Bool.not_true, Bool.not_false, Bool.false_eq_true, decide_eq_true_eq, ge_iff_le, gt_iff_lt]
          · rw [show (f.arr == (s.c.frames[i - 1]).arr) = true by simp; omega]
            simp only [vI_mk, vB_mk, vS_mk, vL_mk, sVer_mk, sOff_mk, sLen_mk, oVer_mk, oEs_mk, cI_mk, cB_mk, cS_mk, cL_mk, cVer_mk, cOff_mk, cLen_mk, gI_zero, gI_succ, gB_zero, gB_succ, gS_zero, gS_succ, gL_zero, gL_succ, okI_zero, okI_succ, okB_zero, okB_succ, okS_zero, okS_succ, okL_zero, okL_succ, isIntT_int, isBoolT_bool, isStrT_str, isSlT_sl, intOf_int, boolOf_bool, strOf_str, slOf_sl, treeOf_t, srVer_sref, srOff_sref, srLen_sref, ver_row, esOf_row, cellOf_box, aI_mk, aB_mk, aS_mk, aL_mk, aggOf_agg, join_eq, List.getD_cons_zero, List.getD_cons_succ, decide_true, decide_false, cnd_true, cnd_false, true_and, and_true, false_and, and_false, Option.bind_some, Option.bind_none, List.length_cons, List.length_nil, List.length_map, List.getElem?_map, Option.map_some, Option.map_none, Int.toNat_natCast, reduceCtorEq, eq_self, if_true, if_false, Nat.zero_add, Nat.reduceAdd, Nat.reduceEqDiff, Int.natCast_nonneg, List.drop_zero, or_true, true_or, or_false, false_or, Bool.not_true, Bool.not_false, Bool.false_eq_true, decide_eq_true_eq, ge_iff_le, gt_iff_lt, (show ¬ f.num ≤ (s.c.frames[i - 1]).num by omega)]
      · refine s9.mono fun n h again => ?_
        simp only [L4_1, vI_mk, vB_mk, vS_mk, vL_mk, sVer_mk, sOff_mk, sLen_mk, oVer_mk, oEs_mk, cI_mk, cB_mk, cS_mk, cL_mk, cVer_mk, cOff_mk, cLen_mk, gI_zero, gI_succ, gB_zero, gB_succ, gS_zero, gS_succ, gL_zero, gL_succ, okI_zero, okI_succ, okB_zero, okB_succ, okS_zero, okS_succ, okL_zero, okL_succ, isIntT_int, isBoolT_bool, isStrT_str, isSlT_sl, intOf_int, boolOf_bool, strOf_str, slOf_sl, treeOf_t, srVer_sref, srOff_sref, srLen_sref, ver_row, esOf_row, cellOf_box, aI_mk, aB_mk, aS_mk, aL_mk, aggOf_agg, join_eq, List.getD_cons_zero, List.getD_cons_succ, decide_true, decide_false, cnd_true, cnd_false, true_and, and_true, false_and, and_false, Option.bind_some, Option.bind_none, List.length_cons, List.length_nil, List.length_map, List.getElem?_map, Option.map_some, Option.map_none, Int.toNat_natCast, reduceCtorEq, eq_self, if_true, if_false, Nat.zero_add, Nat.reduceAdd, Nat.reduceEqDiff, Int.natCast_nonneg, List.drop_zero, or_true, true_or, or_false, false_or, Bool.not_true, Bool.not_false, Bool.false_eq_true, decide_eq_true_eq, ge_iff_le, gt_iff_lt, Int.lt_irrefl, h]
  · refine s9.mono fun n h => ?_
    simp only [vI_mk, vB_mk, vS_mk, vL_mk, sVer_mk, sOff_mk, sLen_mk, oVer_mk, oEs_mk, cI_mk, cB_mk, cS_mk, cL_mk, cVer_mk, cOff_mk, cLen_mk, gI_zero, gI_succ, gB_zero, gB_succ, gS_zero, gS_succ, gL_zero, gL_succ, okI_zero, okI_succ, okB_zero, okB_succ, okS_zero, okS_succ, okL_zero, okL_succ, isIntT_int, isBoolT_bool, isStrT_str, isSlT_sl, intOf_int, boolOf_bool, strOf_str, slOf_sl, treeOf_t, srVer_sref, srOff_sref, srLen_sref, ver_row, esOf_row, cellOf_box, aI_mk, aB_mk, aS_mk, aL_mk, aggOf_agg, join_eq, List.getD_cons_zero, List.getD_cons_succ, decide_true, decide_false, cnd_true, cnd_false, true_and, and_true, false_and, and_false, Option.bind_some, Option.bind_none, List.length_cons, List.length_nil, List.length_map, List.getElem?_map, Option.map_some, Option.map_none, Int.toNat_natCast, reduceCtorEq, eq_self, if_true, if_false, Nat.zero_add, Nat.reduceAdd, Nat.reduceEqDiff, Int.natCast_nonneg, List.drop_zero, or_true, true_or, or_false, false_or, Bool.not_true, Bool.not_false, Bool.false_eq_true, decide_eq_true_eq, ge_iff_le, gt_iff_lt, (show (20 : Int) < (l.length : Int) by omega), h]

/-! ### Conserves -/
theorem s1000011 (es : List (List Tree)) (hl : es.length ≤ 1073741824) : Runs C 1000011 [.sl 2 es] [.sl 2 es] := by
  refine Runs.of (fun n => e1000011 n _) (Ev.of fun n => ?_)
  by_cases h : es.length = 0
  · have : es = [] := List.eq_nil_of_length_eq_zero h
    subst this
    simp [cnd_eq, both_self]
  · rw [cnd_pos h, cnd_pos hl, List.take_of_length_le (Nat.le_refl _)]
theorem tab (f R : Int) : ([[tI 1], [tI 1], [tI 1], [tI 1], [tI 2], [tI 2], [tI 1], [tI 0]] : List (List Tree))[(f % 8).toNat]? = some [tI ((fate f R).length : Int)] := by
  unfold fate
  rcases (show f % 8 = 0 ∨ f % 8 = 1 ∨ f % 8 = 2 ∨ f % 8 = 3 ∨ f % 8 = 4 ∨ f % 8 = 5 ∨ f % 8 = 6 ∨ f % 8 = 7 by omega) with e | e | e | e | e | e | e | e <;> simp [e]
def mask (x : Stp) : Stp := ⟨x.after, x.fate % 4⟩
theorem and3 (x : Int) (h : 0 ≤ x ∧ x ≤ 255) : andK .u8 x 3 = x % 4 := by
  have : ∀ k : Fin 256, andK .u8 ((k.val : Nat) : Int) 3 = ((k.val : Nat) : Int) % 4 := by decide +kernel
  have h2 := this ⟨x.toNat, by omega⟩
  simp only [Int.toNat_of_nonneg h.1] at h2
  exact h2
def sumF (R : Int) (l : List Stp) : Nat := (l.map fun x => (fate x.fate R).length).sum
def cntL (l : List Stp) : Nat := l.countP fun x => decide (6 ≤ x.fate % 8)
theorem sumF_le (R : Int) : ∀ l : List Stp, sumF R l ≤ 2 * l.length
  | [] => by simp [sumF]
  | x :: l => by
    have := sumF_le R l
    have := fate_len x.fate R
    simp only [sumF, List.map_cons, List.sum_cons, List.length_cons] at *
    omega
def cstep (R : Int) (s : Nat × Nat) (x : Stp) : Nat × Nat := (s.1 + (fate x.fate R).length, s.2 + if 6 ≤ x.fate % 8 then 1 else 0)
theorem rest5 (r : Int) (hr : 0 ≤ r ∧ r ≤ 255) (l0 : List (List Tree)) (l : List Stp) (hll : l0.length = l.length) (hl : l.length ≤ 20) (ho : ∀ x ∈ l, x.ok) (a2 : Bool) (hp : a2 = true → ∀ x ∈ l, x.fate % 8 < 4) :
    Ev fun n => JM5_5 n r [.sl 2 l0] a2 ([], [.row false 0 2 (l.map Stp.enc)]) = some [.bool true] := by
  have e1 : List.take l.length (l.map Stp.enc) = l.map Stp.enc := List.take_of_length_le (by simp)
  refine Ev.rw (T' := ?TT) (s10 r hr l hl ho) (fun k h => ?g1) ?g2
  case g1 =>
    simp only [JM5_5, vI_mk, vB_mk, vS_mk, vL_mk, sVer_mk, sOff_mk, sLen_mk, oVer_mk, oEs_mk, cI_mk, cB_mk, cS_mk, cL_mk, cVer_mk, cOff_mk, cLen_mk, gI_zero, gI_succ, gB_zero, gB_succ, gS_zero, gS_succ, gL_zero, gL_succ, okI_zero, okI_succ, okB_zero, okB_succ, okS_zero, okS_succ, okL_zero, okL_succ, isIntT_int, isBoolT_bool, isStrT_str, isSlT_sl, intOf_int, boolOf_bool, strOf_str, slOf_sl, treeOf_t, srVer_sref, srOff_sref, srLen_sref, ver_row, esOf_row, cellOf_box, aI_mk, aB_mk, aS_mk, aL_mk, aggOf_agg, join_eq, List.getD_cons_zero, List.getD_cons_succ, decide_true, decide_false, cnd_true, cnd_false, true_and, and_true, false_and, and_false, Option.bind_some, Option.bind_none, List.length_cons, List.length_nil, List.length_map, List.getElem?_map, Option.map_some, Option.map_none, Int.toNat_natCast, reduceCtorEq, eq_self, if_true, if_false, Nat.zero_add, Nat.reduceAdd, Nat.reduceEqDiff, Int.natCast_nonneg, List.drop_zero, or_true, true_or, or_false, false_or, Bool.not_true, Bool.not_false, Bool.false_eq_true, decide_eq_true_eq, ge_iff_le, gt_iff_lt, hll, e1, h]
    rfl
  case g2 =>
    have hr' : 1 ≤ 1 + r % 20 ∧ 1 + r % 20 ≤ 1048576 := by omega
    generalize 1 + r % 20 = R at hr' ⊢
    have hI := PInv.all hr' (show l.length ≤ 1000 by omega) ho
    generalize playS R l = s at hI ⊢
    have h2 := hI.sent
    have h3 := hI.slen
    have h4 := hI.flen2
    have h5 := hI.flen
    have h6 := hI.lost
    have h7 := hI.at0
    refine loop_overQ (fun r => [Tree.bool r]) l (fun i (s : Nat × Nat) => (([.t (tI s.1), .t (tI s.2), .t (tI i)], [.box [], .box []]) : List AV × Heap)) (fun _ s x => .next (cstep R s x)) (fun _ => true)
      (fun i s => s = (sumF R (l.take i), cntL (l.take i))) (0, 0) rfl (by simp [sumF, cntL]) (runL_fold (cstep R) (fun _ => true) 0 l (0, 0))
      (fun i s x hx hs => Ev.of fun n again => ?_) (fun i s x s' hx hs hs' => ?_) (fun s' hs => ?_)
    · have hi := lt_of_some hx
      have hxo := ho x (List.mem_of_getElem? hx)
      have ht : Int.tmod x.fate 8 = x.fate % 8 := Int.tmod_eq_emod_of_nonneg (by have := hxo.2; omega)
      have hsl := sumF_le R (l.take i)
      have hcl : cntL (l.take i) ≤ (l.take i).length := List.countP_le_length
      have hli : (l.take i).length = i := by simp; omega
      have hfl := fate_len x.fate R
      subst hs
      simp only
      generalize hA : sumF R (l.take i) = A at *
      generalize hB : cntL (l.take i) = B at *
      have w1 : w64 ((A : Int) + ((fate x.fate R).length : Int)) = ((A + (fate x.fate R).length : Nat) : Int) := by rw [w64_id (by omega) (by omega)]; omega
      simp only [M5_4, vI_mk, vB_mk, vS_mk, vL_mk, sVer_mk, sOff_mk, sLen_mk, oVer_mk, oEs_mk, cI_mk, cB_mk, cS_mk, cL_mk, cVer_mk, cOff_mk, cLen_mk, gI_zero, gI_succ, gB_zero, gB_succ, gS_zero, gS_succ, gL_zero, gL_succ, okI_zero, okI_succ, okB_zero, okB_succ, okS_zero, okS_succ, okL_zero, okL_succ, isIntT_int, isBoolT_bool, isStrT_str, isSlT_sl, intOf_int, boolOf_bool, strOf_str, slOf_sl, treeOf_t, srVer_sref, srOff_sref, srLen_sref, ver_row, esOf_row, cellOf_box, aI_mk, aB_mk, aS_mk, aL_mk, aggOf_agg, join_eq, List.getD_cons_zero, List.getD_cons_succ, decide_true, decide_false, cnd_true, cnd_false, true_and, and_true, false_and, and_false, Option.bind_some, Option.bind_none, List.length_cons, List.length_nil, List.length_map, List.getElem?_map, Option.map_some, Option.map_none, Int.toNat_natCast, reduceCtorEq, eq_self, if_true, if_false, Nat.zero_add, Nat.reduceAdd, Nat.reduceEqDiff, Int.natCast_nonneg, List.drop_zero, or_true, true_or, or_false, false_or, Bool.not_true, Bool.not_false, Bool.false_eq_true, decide_eq_true_eq, ge_iff_le, gt_iff_lt, hll, hx, Stp.enc, isU8, (show (i : Int) < (l.length : Int) by omega), ht, (show 0 ≤ x.fate % 8 by omega), tab x.fate R, w1, w64_succ (show i < 4611686018427387904 by omega)]
      by_cases h6 : 6 ≤ x.fate % 8
      · simp only [h6, vI_mk, vB_mk, vS_mk, vL_mk, sVer_mk, sOff_mk, sLen_mk, oVer_mk, oEs_mk, cI_mk, cB_mk, cS_mk, cL_mk, cVer_mk, cOff_mk, cLen_mk, gI_zero, gI_succ, gB_zero, gB_succ, gS_zero, gS_succ, gL_zero, gL_succ, okI_zero, okI_succ, okB_zero, okB_succ, okS_zero, okS_succ, okL_zero, okL_succ, isIntT_int, isBoolT_bool, isStrT_str, isSlT_sl, intOf_int, boolOf_bool, strOf_str, slOf_sl, treeOf_t, srVer_sref, srOff_sref, srLen_sref, ver_row, esOf_row, cellOf_box, aI_mk, aB_mk, aS_mk, aL_mk, aggOf_agg, join_eq, List.getD_cons_zero, List.getD_cons_succ, decide_true, decide_false, cnd_true, cnd_false, true_and, and_true, false_and, and_false, Option.bind_some, Option.bind_none, List.length_cons, List.length_nil, List.length_map, List.getElem?_map, Option.map_some, Option.map_none, Int.toNat_natCast, reduceCtorEq, eq_self, if_true, if_false, Nat.zero_add, Nat.reduceAdd, Nat.reduceEqDiff, Int.natCast_nonneg, List.drop_zero, or_true, true_or, or_false, false_or, Bool.not_true, Bool.not_false, Bool.false_eq_true, decide_eq_true_eq, ge_iff_le, gt_iff_lt, w64_succ (show B < 4611686018427387904 by omega), Rd.go_next, cstep]
      · simp only [h6, vI_mk, vB_mk, vS_mk, vL_mk, sVer_mk, sOff_mk, sLen_mk, oVer_mk, oEs_mk, cI_mk, cB_mk, cS_mk, cL_mk, cVer_mk, cOff_mk, cLen_mk, gI_zero, gI_succ, gB_zero, gB_succ, gS_zero, gS_succ, gL_zero, gL_succ, okI_zero, okI_succ, okB_zero, okB_succ, okS_zero, okS_succ, okL_zero, okL_succ, isIntT_int, isBoolT_bool, isStrT_str, isSlT_sl, intOf_int, boolOf_bool, strOf_str, slOf_sl, treeOf_t, srVer_sref, srOff_sref, srLen_sref, ver_row, esOf_row, cellOf_box, aI_mk, aB_mk, aS_mk, aL_mk, aggOf_agg, join_eq, List.getD_cons_zero, List.getD_cons_succ, decide_true, decide_false, cnd_true, cnd_false, true_and, and_true, false_and, and_false, Option.bind_some, Option.bind_none, List.length_cons, List.length_nil, List.length_map, List.getElem?_map, Option.map_some, Option.map_none, Int.toNat_natCast, reduceCtorEq, eq_self, if_true, if_false, Nat.zero_add, Nat.reduceAdd, Nat.reduceEqDiff, Int.natCast_nonneg, List.drop_zero, or_true, true_or, or_false, false_or, Bool.not_true, Bool.not_false, Bool.false_eq_true, decide_eq_true_eq, ge_iff_le, gt_iff_lt, Rd.go_next, Nat.add_zero, cstep]
    · simp only [Rd.next.injEq] at hs'
      subst hs'
      subst hs
      have : l.take (i + 1) = l.take i ++ [x] := by rw [List.take_add_one, hx]; rfl
      rw [this]
      simp only [cstep, sumF, cntL, List.map_append, List.sum_append, List.countP_append, List.map_cons, List.map_nil, List.sum_cons, List.sum_nil, List.countP_cons, List.countP_nil, Nat.add_zero, Nat.zero_add, decide_eq_true_eq]
    · subst hs
      rw [List.take_length]
      have h5' : s.c.frames.length = sumF R l := h5
      have h6' : s.c.lost = (cntL l : Int) := h6
      simp only [M5_4, vI_mk, vB_mk, vS_mk, vL_mk, sVer_mk, sOff_mk, sLen_mk, oVer_mk, oEs_mk, cI_mk, cB_mk, cS_mk, cL_mk, cVer_mk, cOff_mk, cLen_mk, gI_zero, gI_succ, gB_zero, gB_succ, gS_zero, gS_succ, gL_zero, gL_succ, okI_zero, okI_succ, okB_zero, okB_succ, okS_zero, okS_succ, okL_zero, okL_succ, isIntT_int, isBoolT_bool, isStrT_str, isSlT_sl, intOf_int, boolOf_bool, strOf_str, slOf_sl, treeOf_t, srVer_sref, srOff_sref, srLen_sref, ver_row, esOf_row, cellOf_box, aI_mk, aB_mk, aS_mk, aL_mk, aggOf_agg, join_eq, List.getD_cons_zero, List.getD_cons_succ, decide_true, decide_false, cnd_true, cnd_false, true_and, and_true, false_and, and_false, Option.bind_some, Option.bind_none, List.length_cons, List.length_nil, List.length_map, List.getElem?_map, Option.map_some, Option.map_none, Int.toNat_natCast, reduceCtorEq, eq_self, if_true, if_false, Nat.zero_add, Nat.reduceAdd, Nat.reduceEqDiff, Int.natCast_nonneg, List.drop_zero, or_true, true_or, or_false, false_or, Bool.not_true, Bool.not_false, Bool.false_eq_true, decide_eq_true_eq, ge_iff_le, gt_iff_lt, hll, Int.lt_irrefl, h5', h6', h2, bne_self_eq_false]
      refine ev_unused (loop_overQ (fun r => [Tree.bool r]) s.c.frames (fun i (_ : Unit) => (([.t (tI i)], [.box [], .box []]) : List AV × Heap)) (fun _ _ _ => .next ()) (fun _ => true) (fun _ _ => True) () rfl trivial (runL_fold (fun _ _ => ()) (fun _ => true) 0 _ ())
        (fun i _ f hx _ => Ev.of fun n again => ?_) (fun _ _ _ _ _ _ _ => trivial) (fun _ _ => ?_))
      · have hi := lt_of_some hx
        cases a2 with
        | false =>
          simp only [M5_3, vI_mk, vB_mk, vS_mk, vL_mk, sVer_mk, sOff_mk, sLen_mk, oVer_mk, oEs_mk, cI_mk, cB_mk, cS_mk, cL_mk, cVer_mk, cOff_mk, cLen_mk, gI_zero, gI_succ, gB_zero, gB_succ, gS_zero, gS_succ, gL_zero, gL_succ, okI_zero, okI_succ, okB_zero, okB_succ, okS_zero, okS_succ, okL_zero, okL_succ, isIntT_int, isBoolT_bool, isStrT_str, isSlT_sl, intOf_int, boolOf_bool, strOf_str, slOf_sl, treeOf_t, srVer_sref, srOff_sref, srLen_sref, ver_row, esOf_row, cellOf_box, aI_mk, aB_mk, aS_mk, aL_mk, aggOf_agg, join_eq, List.getD_cons_zero, List.getD_cons_succ, decide_true, decide_false, cnd_true, cnd_false, true_and, and_true, false_and, and_false, Option.bind_some, Option.bind_none, List.length_cons, List.length_nil, List.length_map, List.getElem?_map, Option.map_some, Option.map_none, Int.toNat_natCast, reduceCtorEq, eq_self, if_true, if_false, Nat.zero_add, Nat.reduceAdd, Nat.reduceEqDiff, Int.natCast_nonneg, List.drop_zero, or_true, true_or, or_false, false_or, Bool.not_true, Bool.not_false, Bool.false_eq_true, decide_eq_true_eq, ge_iff_le, gt_iff_lt, hx, Frame.enc, (show (i : Int) < s.c.frames.length by omega), w64_succ (show i < 4611686018427387904 by omega), Rd.go_next]
        | true =>
          obtain ⟨p1, p2⟩ := hI.plain (hp rfl)
          obtain ⟨q1, q2⟩ := p2 i f hx
          have ht := hI.sle _ (List.mem_of_getElem? q2)
          have w1 : w64 (f.arr - R + R) = f.arr := by rw [w64_id (by omega) (by omega)]; omega
          simp only [M5_3, vI_mk, vB_mk, vS_mk, vL_mk, sVer_mk, sOff_mk, sLen_mk, oVer_mk, oEs_mk, cI_mk, cB_mk, cS_mk, cL_mk, cVer_mk, cOff_mk, cLen_mk, gI_zero, gI_succ, gB_zero, gB_succ, gS_zero, gS_succ, gL_zero, gL_succ, okI_zero, okI_succ, okB_zero, okB_succ, okS_zero, okS_succ, okL_zero, okL_succ, isIntT_int, isBoolT_bool, isStrT_str, isSlT_sl, intOf_int, boolOf_bool, strOf_str, slOf_sl, treeOf_t, srVer_sref, srOff_sref, srLen_sref, ver_row, esOf_row, cellOf_box, aI_mk, aB_mk, aS_mk, aL_mk, aggOf_agg, join_eq, List.getD_cons_zero, List.getD_cons_succ, decide_true, decide_false, cnd_true, cnd_false, true_and, and_true, false_and, and_false, Option.bind_some, Option.bind_none, List.length_cons, List.length_nil, List.length_map, List.getElem?_map, Option.map_some, Option.map_none, Int.toNat_natCast, reduceCtorEq, eq_self, if_true, if_false, Nat.zero_add, Nat.reduceAdd, Nat.reduceEqDiff, Int.natCast_nonneg, List.drop_zero, or_true, true_or, or_false, false_or, Bool.not_true, Bool.not_false, Bool.false_eq_true, decide_eq_true_eq, ge_iff_le, gt_iff_lt, hx, Frame.enc, (show (i : Int) < s.c.frames.length by omega), q1, q2, encI, w1, bne_self_eq_false, w64_succ (show i < 4611686018427387904 by omega), Rd.go_next]
      · refine s9.mono fun n h again => ?_
        simp only [M5_3, vI_mk, vB_mk, vS_mk, vL_mk, sVer_mk, sOff_mk, sLen_mk, oVer_mk, oEs_mk, cI_mk, cB_mk, cS_mk, cL_mk, cVer_mk, cOff_mk, cLen_mk, gI_zero, gI_succ, gB_zero, gB_succ, gS_zero, gS_succ, gL_zero, gL_succ, okI_zero, okI_succ, okB_zero, okB_succ, okS_zero, okS_succ, okL_zero, okL_succ, isIntT_int, isBoolT_bool, isStrT_str, isSlT_sl, intOf_int, boolOf_bool, strOf_str, slOf_sl, treeOf_t, srVer_sref, srOff_sref, srLen_sref, ver_row, esOf_row, cellOf_box, aI_mk, aB_mk, aS_mk, aL_mk, aggOf_agg, join_eq, List.getD_cons_zero, List.getD_cons_succ, decide_true, decide_false, cnd_true, cnd_false, true_and, and_true, false_and, and_false, Option.bind_some, Option.bind_none, List.length_cons, List.length_nil, List.length_map, List.getElem?_map, Option.map_some, Option.map_none, Int.toNat_natCast, reduceCtorEq, eq_self, if_true, if_false, Nat.zero_add, Nat.reduceAdd, Nat.reduceEqDiff, Int.natCast_nonneg, List.drop_zero, or_true, true_or, or_false, false_or, Bool.not_true, Bool.not_false, Bool.false_eq_true, decide_eq_true_eq, ge_iff_le, gt_iff_lt, Int.lt_irrefl, h]
theorem law5 (r : Int) (hr : 0 ≤ r ∧ r ≤ 255) (l : List Stp) (ho : ∀ x ∈ l, x.ok) (a2 : Bool) : Runs C 5 [.int .u8 r, .sl 2 (l.map Stp.enc), .bool a2] [.bool true] := by
  refine Runs.of (fun n => f5 n _ _ _) ?_
  by_cases hl : l.length ≤ 20
  · refine Ev.rw (T' := ?TT) (s1000011 (l.map Stp.enc) (by simp; omega)) (fun k h => ?g1) ?g2
    case g1 =>
      simp only [h, vI_mk, vB_mk, vS_mk, vL_mk, sVer_mk, sOff_mk, sLen_mk, oVer_mk, oEs_mk, cI_mk, cB_mk, cS_mk, cL_mk, cVer_mk, cOff_mk, cLen_mk, gI_zero, gI_succ, gB_zero, gB_succ, gS_zero, gS_succ, gL_zero, gL_succ, okI_zero, okI_succ, okB_zero, okB_succ, okS_zero, okS_succ, okL_zero, okL_succ, isIntT_int, isBoolT_bool, isStrT_str, isSlT_sl, intOf_int, boolOf_bool, strOf_str, slOf_sl, treeOf_t, srVer_sref, srOff_sref, srLen_sref, ver_row, esOf_row, cellOf_box, aI_mk, aB_mk, aS_mk, aL_mk, aggOf_agg, join_eq, List.getD_cons_zero, List.getD_cons_succ, decide_true, decide_false, cnd_true, cnd_false, true_and, and_true, false_and, and_false, Option.bind_some, Option.bind_none, List.length_cons, List.length_nil, List.length_map, List.getElem?_map, Option.map_some, Option.map_none, Int.toNat_natCast, reduceCtorEq, eq_self, if_true, if_false, Nat.zero_add, Nat.reduceAdd, Nat.reduceEqDiff, Int.natCast_nonneg, List.drop_zero, or_true, true_or, or_false, false_or, Bool.not_true, Bool.not_false, Bool.false_eq_true, decide_eq_true_eq, ge_iff_le, gt_iff_lt, (show ¬ (20 : Int) < (l.length : Int) by omega)]
      rfl
    case g2 =>
      cases a2 with
      | false =>
        refine (rest5 r hr (l.map Stp.enc) l (by simp) hl ho false (by simp)).mono fun n h => ?_
        simp only [vI_mk, vB_mk, vS_mk, vL_mk, sVer_mk, sOff_mk, sLen_mk, oVer_mk, oEs_mk, cI_mk, cB_mk, cS_mk, cL_mk, cVer_mk, cOff_mk, cLen_mk, gI_zero, gI_succ, gB_zero, gB_succ, gS_zero, gS_succ, gL_zero, gL_succ, okI_zero, okI_succ, okB_zero, okB_succ, okS_zero, okS_succ, okL_zero, okL_succ, isIntT_int, isBoolT_bool, isStrT_str, isSlT_sl, intOf_int, boolOf_bool, strOf_str, slOf_sl, treeOf_t, srVer_sref, srOff_sref, srLen_sref, ver_row, esOf_row, cellOf_box, aI_mk, aB_mk, aS_mk, aL_mk, aggOf_agg, join_eq, List.getD_cons_zero, List.getD_cons_succ, decide_true, decide_false, cnd_true, cnd_false, true_and, and_true, false_and, and_false, Option.bind_some, Option.bind_none, List.length_cons, List.length_nil, List.length_map, List.getElem?_map, Option.map_some, Option.map_none, Int.toNat_natCast, reduceCtorEq, eq_self, if_true, if_false, Nat.zero_add, Nat.reduceAdd, Nat.reduceEqDiff, Int.natCast_nonneg, List.drop_zero, or_true, true_or, or_false, false_or, Bool.not_true, Bool.not_false, Bool.false_eq_true, decide_eq_true_eq, ge_iff_le, gt_iff_lt]
        exact h
      | true =>
        have hm : (l.map mask).length = l.length := by simp
        have hok : ∀ x ∈ l.map mask, x.ok := by
          intro x hx
          rw [List.mem_map] at hx
          obtain ⟨y, hy, rfl⟩ := hx
          have := ho y hy
          simp only [Stp.ok, mask] at *
          omega
        have hplain : ∀ x ∈ l.map mask, x.fate % 8 < 4 := by
          intro x hx
          rw [List.mem_map] at hx
          obtain ⟨y, hy, rfl⟩ := hx
          simp only [mask]
          omega
        have key := loop_overZ (R := List Tree) (Z := List AV × Heap → Option (List Tree)) (B := fun n z p again => M5_1 n [.sl 2 (l.map Stp.enc)] z p again) (r := ()) l
          (s := (([.t (tI 0)], [.row false 0 2 (l.map Stp.enc)]) : List AV × Heap))
          (fun i (_ : Unit) => (([.t (tI i)], [.row false 0 2 (((l.take i).map mask ++ l.drop i).map Stp.enc)]) : List AV × Heap)) (fun _ _ _ => .next ()) (fun _ => ())
          (fun z _ => z ([], [.row false 0 2 ((l.map mask).map Stp.enc)])) (fun _ _ => True) () rfl trivial (runL_fold (fun _ _ => ()) (fun _ => ()) 0 _ ())
          (fun i s x hx hI => Ev.of fun n z again => ?_) (fun _ _ _ _ _ _ _ => trivial) (fun s hI => Ev.of fun n z again => ?_)
        · refine (key.and (rest5 r hr (l.map Stp.enc) (l.map mask) (by simp) (by simpa using hl) hok true (fun _ => hplain))).mono fun n h => ?_
          simp only [vI_mk, vB_mk, vS_mk, vL_mk, sVer_mk, sOff_mk, sLen_mk, oVer_mk, oEs_mk, cI_mk, cB_mk, cS_mk, cL_mk, cVer_mk, cOff_mk, cLen_mk, gI_zero, gI_succ, gB_zero, gB_succ, gS_zero, gS_succ, gL_zero, gL_succ, okI_zero, okI_succ, okB_zero, okB_succ, okS_zero, okS_succ, okL_zero, okL_succ, isIntT_int, isBoolT_bool, isStrT_str, isSlT_sl, intOf_int, boolOf_bool, strOf_str, slOf_sl, treeOf_t, srVer_sref, srOff_sref, srLen_sref, ver_row, esOf_row, cellOf_box, aI_mk, aB_mk, aS_mk, aL_mk, aggOf_agg, join_eq, List.getD_cons_zero, List.getD_cons_succ, decide_true, decide_false, cnd_true, cnd_false, true_and, and_true, false_and, and_false, Option.bind_some, Option.bind_none, List.length_cons, List.length_nil, List.length_map, List.getElem?_map, Option.map_some, Option.map_none, Int.toNat_natCast, reduceCtorEq, eq_self, if_true, if_false, Nat.zero_add, Nat.reduceAdd, Nat.reduceEqDiff, Int.natCast_nonneg, List.drop_zero, or_true, true_or, or_false, false_or, Bool.not_true, Bool.not_false, Bool.false_eq_true, decide_eq_true_eq, ge_iff_le, gt_iff_lt, h.1]
          exact h.2
        · have hi := lt_of_some hx
          have hxo := ho x (List.mem_of_getElem? hx)
          have hil : ((l.take i).map mask).length = i := by simp; omega
          have hd : l.drop i = x :: l.drop (i + 1) := by
            rw [List.drop_eq_getElem_cons hi]
            rw [List.getElem?_eq_getElem hi] at hx
            cases hx
            rfl
          have hg : ((l.take i).map mask ++ l.drop i)[i]? = some x := by
            rw [List.getElem?_append_right (by omega), hil, Nat.sub_self, hd]; rfl
          have hset : List.set (List.map Stp.enc ((l.take i).map mask ++ l.drop i)) i [.int .u8 x.after, .int .u8 (x.fate % 4)] = List.map Stp.enc ((l.take (i + 1)).map mask ++ l.drop (i + 1)) := by
            have ht : l.take (i + 1) = l.take i ++ [x] := by rw [List.take_add_one, hx]; rfl
            rw [show ([.int .u8 x.after, .int .u8 (x.fate % 4)] : List Tree) = (mask x).enc from rfl, ← List.map_set]
            congr 1
            rw [List.set_append_right _ _ (by omega), hil, Nat.sub_self, hd, ht]
            simp
          simp only [M5_1, vI_mk, vB_mk, vS_mk, vL_mk, sVer_mk, sOff_mk, sLen_mk, oVer_mk, oEs_mk, cI_mk, cB_mk, cS_mk, cL_mk, cVer_mk, cOff_mk, cLen_mk, gI_zero, gI_succ, gB_zero, gB_succ, gS_zero, gS_succ, gL_zero, gL_succ, okI_zero, okI_succ, okB_zero, okB_succ, okS_zero, okS_succ, okL_zero, okL_succ, isIntT_int, isBoolT_bool, isStrT_str, isSlT_sl, intOf_int, boolOf_bool, strOf_str, slOf_sl, treeOf_t, srVer_sref, srOff_sref, srLen_sref, ver_row, esOf_row, cellOf_box, aI_mk, aB_mk, aS_mk, aL_mk, aggOf_agg, join_eq, List.getD_cons_zero, List.getD_cons_succ, decide_true, decide_false, cnd_true, cnd_false, true_and, and_true, false_and, and_false, Option.bind_some, Option.bind_none, List.length_cons, List.length_nil, List.length_map, List.getElem?_map, Option.map_some, Option.map_none, Int.toNat_natCast, reduceCtorEq, eq_self, if_true, if_false, Nat.zero_add, Nat.reduceAdd, Nat.reduceEqDiff, Int.natCast_nonneg, List.drop_zero, or_true, true_or, or_false, false_or, Bool.not_true, Bool.not_false, Bool.false_eq_true, decide_eq_true_eq, ge_iff_le, gt_iff_lt, hg, Stp.enc, isU8, (show (i : Int) < (l.length : Int) by omega), List.take_succ_cons, List.take_zero, List.drop_succ_cons, List.drop_zero, List.cons_append, List.nil_append, List.append_nil, Nat.le_refl, and3 x.fate hxo.2, w64_succ (show i < 4611686018427387904 by have := hl; omega), Rd.go_next, List.drop_nil]
          rw [hset]
        · have hfin : (l.take l.length).map mask ++ l.drop l.length = l.map mask := by simp
          rw [hfin]
          simp only [M5_1, vI_mk, vB_mk, vS_mk, vL_mk, sVer_mk, sOff_mk, sLen_mk, oVer_mk, oEs_mk, cI_mk, cB_mk, cS_mk, cL_mk, cVer_mk, cOff_mk, cLen_mk, gI_zero, gI_succ, gB_zero, gB_succ, gS_zero, gS_succ, gL_zero, gL_succ, okI_zero, okI_succ, okB_zero, okB_succ, okS_zero, okS_succ, okL_zero, okL_succ, isIntT_int, isBoolT_bool, isStrT_str, isSlT_sl, intOf_int, boolOf_bool, strOf_str, slOf_sl, treeOf_t, srVer_sref, srOff_sref, srLen_sref, ver_row, esOf_row, cellOf_box, aI_mk, aB_mk, aS_mk, aL_mk, aggOf_agg, join_eq, List.getD_cons_zero, List.getD_cons_succ, decide_true, decide_false, cnd_true, cnd_false, true_and, and_true, false_and, and_false, Option.bind_some, Option.bind_none, List.length_cons, List.length_nil, List.length_map, List.getElem?_map, Option.map_some, Option.map_none, Int.toNat_natCast, reduceCtorEq, eq_self, if_true, if_false, Nat.zero_add, Nat.reduceAdd, Nat.reduceEqDiff, Int.natCast_nonneg, List.drop_zero, or_true, true_or, or_false, false_or, Bool.not_true, Bool.not_false, Bool.false_eq_true, decide_eq_true_eq, ge_iff_le, gt_iff_lt, Int.lt_irrefl]
  · refine s9.mono fun n h => ?_
    simp only [vI_mk, vB_mk, vS_mk, vL_mk, sVer_mk, sOff_mk, sLen_mk, oVer_mk, oEs_mk, cI_mk, cB_mk, cS_mk, cL_mk, cVer_mk, cOff_mk, cLen_mk, gI_zero, gI_succ, gB_zero, gB_succ, gS_zero, gS_succ, gL_zero, gL_succ, okI_zero, okI_succ, okB_zero, okB_succ, okS_zero, okS_succ, okL_zero, okL_succ, isIntT_int, isBoolT_bool, isStrT_str, isSlT_sl, intOf_int, boolOf_bool, strOf_str, slOf_sl, treeOf_t, srVer_sref, srOff_sref, srLen_sref, ver_row, esOf_row, cellOf_box, aI_mk, aB_mk, aS_mk, aL_mk, aggOf_agg, join_eq, List.getD_cons_zero, List.getD_cons_succ, decide_true, decide_false, cnd_true, cnd_false, true_and, and_true, false_and, and_false, Option.bind_some, Option.bind_none, List.length_cons, List.length_nil, List.length_map, List.getElem?_map, Option.map_some, Option.map_none, Int.toNat_natCast, reduceCtorEq, eq_self, if_true, if_false, Nat.zero_add, Nat.reduceAdd, Nat.reduceEqDiff, Int.natCast_nonneg, List.drop_zero, or_true, true_or, or_false, false_or, Bool.not_true, Bool.not_false, Bool.false_eq_true, decide_eq_true_eq, ge_iff_le, gt_iff_lt, (show (20 : Int) < (l.length : Int) by omega), h]
end Ab
