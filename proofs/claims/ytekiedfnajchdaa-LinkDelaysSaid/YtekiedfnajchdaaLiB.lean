/- Link: Check, Send, Receive, New: what the functions answer. -/
import Derived.Test.YtekiedfnajchdaaLiA
set_option linter.unusedVariables false
set_option linter.unusedSimpArgs false
namespace Ab
open Go

/-- Frames of segments that have a Serial only. -/
structure Frame where
  arr : Int
  num : Int
  ser : Int
  deriving DecidableEq
def Frame.enc (f : Frame) : List Tree := [tI f.arr, tI f.num, tI 0, tI 0, tI f.ser, tI 0, tI 0, .bool false, .str (ByteArray.mk #[]), .sl 2 []]
structure Chan where
  rng : Int
  frames : List Frame
  sent : Int
  lost : Int
def Chan.enc (c : Chan) : List Tree := [tI c.rng, .sl 10 (c.frames.map Frame.enc), tI c.sent, tI c.lost]
structure GoodC (c : Chan) : Prop where
  rng : 1 ≤ c.rng ∧ c.rng ≤ 1048576
  lost : 0 ≤ c.lost ∧ c.lost ≤ c.sent
  sent : c.sent ≤ 1152921504606846976
  len : c.frames.length ≤ 10000
  frm : ∀ f ∈ c.frames, 0 ≤ f.arr ∧ f.arr ≤ 2199023255552 ∧ 0 ≤ f.num ∧ f.num < c.sent
  srt : c.frames.Pairwise fun a b => a.arr ≤ b.arr
theorem s1000026 (es : List (List Tree)) (hl : es.length ≤ 1073741824) : Runs C 1000026 [.sl 10 es] [.sl 10 es] := by
  refine Runs.of (fun n => e1000026 n _) (Ev.of fun n => ?_)
  by_cases h : es.length = 0
  · have : es = [] := List.eq_nil_of_length_eq_zero h
    subst this
    simp [cnd_eq, both_self]
  · rw [cnd_pos h, cnd_pos hl, List.take_of_length_le (Nat.le_refl _)]
theorem s23 (c : Chan) (hc : GoodC c) : Runs C 23 c.enc [tI 0] := by
  refine Runs.of (fun n => e23 n _ _ _ _) ?_
  have h1 := hc.rng
  have h2 := hc.lost
  have h3 := hc.len
  refine Ev.rw (T' := ?TT) (s12 c.rng) (fun n h => ?g1) ?g2
  case g1 =>
    simp only [h, vI_mk, vB_mk, vS_mk, vL_mk, sVer_mk, sOff_mk, sLen_mk, oVer_mk, oEs_mk, cI_mk, cB_mk, cS_mk, cL_mk, cVer_mk, cOff_mk, cLen_mk, gI_zero, gI_succ, gB_zero, gB_succ, gS_zero, gS_succ, gL_zero, gL_succ, okI_zero, okI_succ, okB_zero, okB_succ, okS_zero, okS_succ, okL_zero, okL_succ, isIntT_int, isBoolT_bool, isStrT_str, isSlT_sl, intOf_int, boolOf_bool, strOf_str, slOf_sl, treeOf_t, srVer_sref, srOff_sref, srLen_sref, ver_row, esOf_row, cellOf_box, aI_mk, aB_mk, aS_mk, aL_mk, aggOf_agg, join_eq, List.getD_cons_zero, List.getD_cons_succ, decide_true, decide_false, cnd_true, cnd_false, true_and, and_true, false_and, and_false, Option.bind_some, Option.bind_none, List.length_cons, List.length_nil, List.length_map, List.getElem?_map, Option.map_some, Option.map_none, Int.toNat_natCast, reduceCtorEq, eq_self, if_true, if_false, Nat.zero_add, Nat.reduceAdd, Nat.reduceEqDiff, Int.natCast_nonneg, List.drop_zero, or_true, true_or, or_false, false_or, Bool.not_true, Bool.not_false, Bool.false_eq_true, decide_eq_true_eq, ge_iff_le, gt_iff_lt, h1, and_self, (show ¬ c.sent < 0 by omega), (show ¬ c.lost < 0 by omega), (show ¬ c.sent < c.lost by omega), (show ¬ (10000 : Int) < (c.frames.length : Int) by omega)]
    rfl
  case g2 =>
    refine loop_overQ (fun (r : Int) => [tI r]) c.frames (fun i (_ : Unit) => (([.t (tI i)], []) : List AV × Heap)) (fun _ _ _ => .next ()) (fun _ => 0) (fun _ _ => True) () rfl trivial (runL_fold (fun _ _ => ()) (fun _ => 0) 0 _ ())
      (fun i s f hx hI => Ev.of fun n again => ?_) (fun _ _ _ _ _ _ _ => trivial) (fun s hI => Ev.of fun n again => ?_)
    · have hi := lt_of_some hx
      have hf := hc.frm f (List.mem_of_getElem? hx)
      by_cases hi0 : i = 0
      · subst hi0
        simp only [vI_mk, vB_mk, vS_mk, vL_mk, sVer_mk, sOff_mk, sLen_mk, oVer_mk, oEs_mk, cI_mk, cB_mk, cS_mk, cL_mk, cVer_mk, cOff_mk, cLen_mk, gI_zero, gI_succ, gB_zero, gB_succ, gS_zero, gS_succ, gL_zero, gL_succ, okI_zero, okI_succ, okB_zero, okB_succ, okS_zero, okS_succ, okL_zero, okL_succ, isIntT_int, isBoolT_bool, isStrT_str, isSlT_sl, intOf_int, boolOf_bool, strOf_str, slOf_sl, treeOf_t, srVer_sref, srOff_sref, srLen_sref, ver_row, esOf_row, cellOf_box, aI_mk, aB_mk, aS_mk, aL_mk, aggOf_agg, join_eq, List.getD_cons_zero, List.getD_cons_succ, decide_true, decide_false, cnd_true, cnd_false, true_and, and_true, false_and, and_false, Option.bind_some, Option.bind_none, List.length_cons, List.length_nil, List.length_map, List.getElem?_map, Option.map_some, Option.map_none, Int.toNat_natCast, reduceCtorEq, eq_self, if_true, if_false, Nat.zero_add, Nat.reduceAdd, Nat.reduceEqDiff, Int.natCast_nonneg, List.drop_zero, or_true, true_or, or_false, false_or, Bool.not_true, Bool.not_false, Bool.false_eq_true, decide_eq_true_eq, ge_iff_le, gt_iff_lt, hx, Frame.enc, (show ((0 : Nat) : Int) < c.frames.length by omega), (show ¬ f.arr < 0 by omega), (show ¬ (2199023255552 : Int) < f.arr by omega), (show ¬ f.num < 0 by omega), (show ¬ c.sent ≤ f.num by omega), (show ¬ (0 : Int) < ((0 : Nat) : Int) by omega), w64_succ (show 0 < 4611686018427387904 by omega), Rd.go_next]
      · have hp : c.frames[i - 1]? = some c.frames[i - 1] := List.getElem?_eq_getElem (by omega)
        have hs := List.pairwise_iff_getElem.1 hc.srt (i - 1) i (by omega) hi (by omega)
        rw [List.getElem?_eq_getElem hi] at hx
        have hx2 := Option.some.inj hx
        rw [hx2] at hs
        rw [← List.getElem?_eq_getElem hi] at hx
        simp only [vI_mk, vB_mk, vS_mk, vL_mk, sVer_mk, sOff_mk, sLen_mk, oVer_mk, oEs_mk, cI_mk, cB_mk, cS_mk, cL_mk, cVer_mk, cOff_mk, cLen_mk, gI_zero, gI_succ, gB_zero, gB_succ, gS_zero, gS_succ, gL_zero, gL_succ, okI_zero, okI_succ, okB_zero, okB_succ, okS_zero, okS_succ, okL_zero, okL_succ, isIntT_int, isBoolT_bool, isStrT_str, isSlT_sl, intOf_int, boolOf_bool, strOf_str, slOf_sl, treeOf_t, srVer_sref, srOff_sref, srLen_sref, ver_row, esOf_row, cellOf_box, aI_mk, aB_mk, aS_mk, aL_mk, aggOf_agg, join_eq, List.getD_cons_zero, List.getD_cons_succ, decide_true, decide_false, cnd_true, cnd_false, true_and, and_true, false_and, and_false, Option.bind_some, Option.bind_none, List.length_cons, List.length_nil, List.length_map, List.getElem?_map, Option.map_some, Option.map_none, Int.toNat_natCast, reduceCtorEq, eq_self, if_true, if_false, Nat.zero_add, Nat.reduceAdd, Nat.reduceEqDiff, Int.natCast_nonneg, List.drop_zero, or_true, true_or, or_false, false_or, Bool.not_true, Bool.not_false, Bool.false_eq_true, decide_eq_true_eq, ge_iff_le, gt_iff_lt, hx, hp, Frame.enc, (show (i : Int) < c.frames.length by omega), (show ¬ f.arr < 0 by omega), (show ¬ (2199023255552 : Int) < f.arr by omega), (show ¬ f.num < 0 by omega), (show ¬ c.sent ≤ f.num by omega), (show (0 : Int) < (i : Int) by omega), w64_succ (show i < 4611686018427387904 by omega), w64_pred (show i < 4611686018427387904 by omega) (by omega), (show ¬ f.arr < (c.frames[i - 1]).arr by omega), Rd.go_next]
    · simp only [vI_mk, vB_mk, vS_mk, vL_mk, sVer_mk, sOff_mk, sLen_mk, oVer_mk, oEs_mk, cI_mk, cB_mk, cS_mk, cL_mk, cVer_mk, cOff_mk, cLen_mk, gI_zero, gI_succ, gB_zero, gB_succ, gS_zero, gS_succ, gL_zero, gL_succ, okI_zero, okI_succ, okB_zero, okB_succ, okS_zero, okS_succ, okL_zero, okL_succ, isIntT_int, isBoolT_bool, isStrT_str, isSlT_sl, intOf_int, boolOf_bool, strOf_str, slOf_sl, treeOf_t, srVer_sref, srOff_sref, srLen_sref, ver_row, esOf_row, cellOf_box, aI_mk, aB_mk, aS_mk, aL_mk, aggOf_agg, join_eq, List.getD_cons_zero, List.getD_cons_succ, decide_true, decide_false, cnd_true, cnd_false, true_and, and_true, false_and, and_false, Option.bind_some, Option.bind_none, List.length_cons, List.length_nil, List.length_map, List.getElem?_map, Option.map_some, Option.map_none, Int.toNat_natCast, reduceCtorEq, eq_self, if_true, if_false, Nat.zero_add, Nat.reduceAdd, Nat.reduceEqDiff, Int.natCast_nonneg, List.drop_zero, or_true, true_or, or_false, false_or, Bool.not_true, Bool.not_false, Bool.false_eq_true, decide_eq_true_eq, ge_iff_le, gt_iff_lt, Int.lt_irrefl]
theorem s16 (r : Int) (hr : 1 ≤ r ∧ r ≤ 1048576) : Runs C 16 [tI r] [tI r, .sl 10 [], tI 0, tI 0, tI 0] := by
  refine Runs.of (fun n => e16 n _) ?_
  refine (s12 r).mono fun n h => ?_
  simp only [h, vI_mk, vB_mk, vS_mk, vL_mk, sVer_mk, sOff_mk, sLen_mk, oVer_mk, oEs_mk, cI_mk, cB_mk, cS_mk, cL_mk, cVer_mk, cOff_mk, cLen_mk, gI_zero, gI_succ, gB_zero, gB_succ, gS_zero, gS_succ, gL_zero, gL_succ, okI_zero, okI_succ, okB_zero, okB_succ, okS_zero, okS_succ, okL_zero, okL_succ, isIntT_int, isBoolT_bool, isStrT_str, isSlT_sl, intOf_int, boolOf_bool, strOf_str, slOf_sl, treeOf_t, srVer_sref, srOff_sref, srLen_sref, ver_row, esOf_row, cellOf_box, aI_mk, aB_mk, aS_mk, aL_mk, aggOf_agg, join_eq, List.getD_cons_zero, List.getD_cons_succ, decide_true, decide_false, cnd_true, cnd_false, true_and, and_true, false_and, and_false, Option.bind_some, Option.bind_none, List.length_cons, List.length_nil, List.length_map, List.getElem?_map, Option.map_some, Option.map_none, Int.toNat_natCast, reduceCtorEq, eq_self, if_true, if_false, Nat.zero_add, Nat.reduceAdd, Nat.reduceEqDiff, Int.natCast_nonneg, List.drop_zero, or_true, true_or, or_false, false_or, Bool.not_true, Bool.not_false, Bool.false_eq_true, decide_eq_true_eq, ge_iff_le, gt_iff_lt, hr, and_self]
theorem s18 (c : Chan) (hc : GoodC c) (f : Frame) (rest : List Frame) (hf : c.frames = f :: rest) :
    Runs C 18 c.enc [tI c.rng, .sl 10 (rest.map Frame.enc), tI c.sent, tI c.lost, tI f.arr, tI f.num, tI 0, tI 0, tI f.ser, tI 0, tI 0, .bool false, .str (ByteArray.mk #[]), .sl 2 [], tI 0] := by
  refine Runs.of (fun n => e18 n _ _ _ _) ?_
  have hlen := hc.len
  rw [hf] at hlen
  simp only [List.length_cons] at hlen
  refine ((s23 c hc).and (s1000026 (rest.map Frame.enc) (by simp; omega))).mono fun n h => ?_
  obtain ⟨h1, h2⟩ := h
  have e1 : List.take rest.length (List.map Frame.enc rest) = List.map Frame.enc rest := List.take_of_length_le (by simp)
  simp only [Chan.enc, hf, List.map_cons, Frame.enc] at h1
  simp only [hf, List.map_cons, Frame.enc, h1, vI_mk, vB_mk, vS_mk, vL_mk, sVer_mk, sOff_mk, sLen_mk, oVer_mk, oEs_mk, cI_mk, cB_mk, cS_mk, cL_mk, cVer_mk, cOff_mk, cLen_mk, gI_zero, gI_succ, gB_zero, gB_succ, gS_zero, gS_succ, gL_zero, gL_succ, okI_zero, okI_succ, okB_zero, okB_succ, okS_zero, okS_succ, okL_zero, okL_succ, isIntT_int, isBoolT_bool, isStrT_str, isSlT_sl, intOf_int, boolOf_bool, strOf_str, slOf_sl, treeOf_t, srVer_sref, srOff_sref, srLen_sref, ver_row, esOf_row, cellOf_box, aI_mk, aB_mk, aS_mk, aL_mk, aggOf_agg, join_eq, List.getD_cons_zero, List.getD_cons_succ, decide_true, decide_false, cnd_true, cnd_false, true_and, and_true, false_and, and_false, Option.bind_some, Option.bind_none, List.length_cons, List.length_nil, List.length_map, List.getElem?_map, Option.map_some, Option.map_none, Int.toNat_natCast, reduceCtorEq, eq_self, if_true, if_false, Nat.zero_add, Nat.reduceAdd, Nat.reduceEqDiff, Int.natCast_nonneg, List.drop_zero, or_true, true_or, or_false, false_or, Bool.not_true, Bool.not_false, Bool.false_eq_true, decide_eq_true_eq, ge_iff_le, gt_iff_lt, bne_self_eq_false, (show (((rest.length + 1 : Nat) : Int) == 0) = false by simp; omega), List.getElem?_cons_zero, (show (0 : Int) ≤ 1 by omega), (show (1 : Int) ≤ ((rest.length + 1 : Nat) : Int) by omega), List.take_succ_cons, List.drop_succ_cons, e1, h2]
theorem s18e (c : Chan) (hc : GoodC c) (hf : c.frames = []) :
    Runs C 18 c.enc [tI 0, .sl 10 [], tI 0, tI 0, tI 0, tI 0, tI 0, tI 0, tI 0, tI 0, tI 0, .bool false, .str (ByteArray.mk #[]), .sl 2 [], tI 20] := by
  refine Runs.of (fun n => e18 n _ _ _ _) ?_
  refine (s23 c hc).mono fun n h => ?_
  simp only [Chan.enc, hf] at h
  simp only [hf, h, vI_mk, vB_mk, vS_mk, vL_mk, sVer_mk, sOff_mk, sLen_mk, oVer_mk, oEs_mk, cI_mk, cB_mk, cS_mk, cL_mk, cVer_mk, cOff_mk, cLen_mk, gI_zero, gI_succ, gB_zero, gB_succ, gS_zero, gS_succ, gL_zero, gL_succ, okI_zero, okI_succ, okB_zero, okB_succ, okS_zero, okS_succ, okL_zero, okL_succ, isIntT_int, isBoolT_bool, isStrT_str, isSlT_sl, intOf_int, boolOf_bool, strOf_str, slOf_sl, treeOf_t, srVer_sref, srOff_sref, srLen_sref, ver_row, esOf_row, cellOf_box, aI_mk, aB_mk, aS_mk, aL_mk, aggOf_agg, join_eq, List.getD_cons_zero, List.getD_cons_succ, decide_true, decide_false, cnd_true, cnd_false, true_and, and_true, false_and, and_false, Option.bind_some, Option.bind_none, List.length_cons, List.length_nil, List.length_map, List.getElem?_map, Option.map_some, Option.map_none, Int.toNat_natCast, reduceCtorEq, eq_self, if_true, if_false, Nat.zero_add, Nat.reduceAdd, Nat.reduceEqDiff, Int.natCast_nonneg, List.drop_zero, or_true, true_or, or_false, false_or, Bool.not_true, Bool.not_false, Bool.false_eq_true, decide_eq_true_eq, ge_iff_le, gt_iff_lt, bne_self_eq_false, (show (((0 : Nat) : Int) == 0) = true from rfl)]

/-! ### Send -/
def insF (at_ num ser : Int) (fs : List Frame) (d : Int) : List Frame := insB (fun x => decide (x.arr > at_ + d)) ⟨at_ + d, num, ser⟩ fs
def sendF (at_ num ser : Int) (ds : List Int) (fs : List Frame) : List Frame := ds.foldl (insF at_ num ser) fs
def lostBy (c : Chan) (ds : List Int) : Int := if c.rng ∈ ds then 0 else 1
def sendC (c : Chan) (at_ ser : Int) (ds : List Int) : Chan := ⟨c.rng, sendF at_ c.sent ser ds c.frames, c.sent + 1, c.lost + lostBy c ds⟩
theorem insF_len (at_ num ser : Int) (fs : List Frame) (d : Int) : (insF at_ num ser fs d).length = fs.length + 1 := insB_len _ _ _
theorem insF_srt {at_ num ser : Int} {fs : List Frame} {d : Int} (h : fs.Pairwise fun a b => a.arr ≤ b.arr) : (insF at_ num ser fs d).Pairwise fun a b => a.arr ≤ b.arr := by
  unfold insF
  refine insB_pairwise h (fun x _ hg => ?_) (fun x _ hg => ?_) (fun x _ y _ hr hg => ?_)
  · simp only [decide_eq_true_eq] at hg; simp only; omega
  · simp only [decide_eq_false_iff_not] at hg; simp only; omega
  · simp only [decide_eq_true_eq] at *; omega
theorem down_arr {fs : List Frame} (t : Int) (h : fs.Pairwise fun a b => a.arr ≤ b.arr) : Down (fun x : Frame => decide (x.arr ≤ t)) fs := by
  intro i j x y hij hx hy hlt
  rcases Nat.lt_or_ge i j with hl | hl
  · have h1 := lt_of_some hx
    have h2 := lt_of_some hy
    have := List.pairwise_iff_getElem.1 h i j h1 h2 hl
    rw [List.getElem?_eq_getElem h1] at hx
    rw [List.getElem?_eq_getElem h2] at hy
    cases hx; cases hy
    simp only [decide_eq_true_eq] at *
    omega
  · obtain rfl : i = j := by omega
    rw [hx] at hy
    cases hy
    exact hlt
theorem s17 (c : Chan) (hc : GoodC c) (at_ ser : Int) (ha : 0 ≤ at_ ∧ at_ ≤ 1099511627776) (ds : List Int) (hd : ∀ d ∈ ds, c.rng ≤ d ∧ d ≤ 2 * c.rng) (hl : c.frames.length + ds.length ≤ 10000) :
    Runs C 17 (c.enc ++ [tI at_, tI 0, tI 0, tI ser, tI 0, tI 0, .bool false, .str (ByteArray.mk #[]), .sl 2 [], .sl 1 (ds.map encI)]) ((sendC c at_ ser ds).enc ++ [tI 0]) := by
  refine Runs.of (fun n => e17 n _ _ _ _ _ _ _ _ _ _ _ _ _ _) ?_
  have h1 := hc.rng
  have hsent := hc.sent
  have hlost := hc.lost
  have hw2 : w64 (2 * c.rng) = 2 * c.rng := w64_id (by omega) (by omega)
  refine Ev.rw (T' := ?TT) (s23 c hc) (fun n h => ?g1) ?g2
  case g1 =>
    simp only [Chan.enc] at h
    simp only [h, vI_mk, vB_mk, vS_mk, vL_mk, sVer_mk, sOff_mk, sLen_mk, oVer_mk, oEs_mk, cI_mk, cB_mk, cS_mk, cL_mk, cVer_mk, cOff_mk, cLen_mk, gI_zero, gI_succ, gB_zero, gB_succ, gS_zero, gS_succ, gL_zero, gL_succ, okI_zero, okI_succ, okB_zero, okB_succ, okS_zero, okS_succ, okL_zero, okL_succ, isIntT_int, isBoolT_bool, isStrT_str, isSlT_sl, intOf_int, boolOf_bool, strOf_str, slOf_sl, treeOf_t, srVer_sref, srOff_sref, srLen_sref, ver_row, esOf_row, cellOf_box, aI_mk, aB_mk, aS_mk, aL_mk, aggOf_agg, join_eq, List.getD_cons_zero, List.getD_cons_succ, decide_true, decide_false, cnd_true, cnd_false, true_and, and_true, false_and, and_false, Option.bind_some, Option.bind_none, List.length_cons, List.length_nil, List.length_map, List.getElem?_map, Option.map_some, Option.map_none, Int.toNat_natCast, reduceCtorEq, eq_self, if_true, if_false, Nat.zero_add, Nat.reduceAdd, Nat.reduceEqDiff, Int.natCast_nonneg, List.drop_zero, or_true, true_or, or_false, false_or, Bool.not_true, Bool.not_false, Bool.false_eq_true, decide_eq_true_eq, ge_iff_le, gt_iff_lt, bne_self_eq_false, (show ¬ at_ < 0 by omega), (show ¬ (1099511627776 : Int) < at_ by omega)]
    rfl
  case g2 =>
    refine loop_overQ (fun (r : List Tree) => r) ds (fun i (_ : Unit) => (([.t (tI i)], [.box [.t (tI c.rng), .t (.sl 10 (c.frames.map Frame.enc)), .t (tI c.sent), .t (tI c.lost)], .row false 0 10 [], .box [.t (tI 0), .sref 1 0 0 0, .t (tI 0), .t (tI 0)]]) : List AV × Heap)) (fun _ _ _ => .next ()) (fun _ => (sendC c at_ ser ds).enc ++ [tI 0]) (fun _ _ => True) () rfl trivial (runL_fold (fun _ _ => ()) (fun _ => (sendC c at_ ser ds).enc ++ [tI 0]) 0 ds ())
      (fun i s d hx hI => Ev.of fun n again => ?_) (fun _ _ _ _ _ _ _ => trivial) (fun s hI => ?_)
    · have hi := lt_of_some hx
      have hdd := hd d (List.mem_of_getElem? hx)
      simp only [L17_1, vI_mk, vB_mk, vS_mk, vL_mk, sVer_mk, sOff_mk, sLen_mk, oVer_mk, oEs_mk, cI_mk, cB_mk, cS_mk, cL_mk, cVer_mk, cOff_mk, cLen_mk, gI_zero, gI_succ, gB_zero, gB_succ, gS_zero, gS_succ, gL_zero, gL_succ, okI_zero, okI_succ, okB_zero, okB_succ, okS_zero, okS_succ, okL_zero, okL_succ, isIntT_int, isBoolT_bool, isStrT_str, isSlT_sl, intOf_int, boolOf_bool, strOf_str, slOf_sl, treeOf_t, srVer_sref, srOff_sref, srLen_sref, ver_row, esOf_row, cellOf_box, aI_mk, aB_mk, aS_mk, aL_mk, aggOf_agg, join_eq, List.getD_cons_zero, List.getD_cons_succ, decide_true, decide_false, cnd_true, cnd_false, true_and, and_true, false_and, and_false, Option.bind_some, Option.bind_none, List.length_cons, List.length_nil, List.length_map, List.getElem?_map, Option.map_some, Option.map_none, Int.toNat_natCast, reduceCtorEq, eq_self, if_true, if_false, Nat.zero_add, Nat.reduceAdd, Nat.reduceEqDiff, Int.natCast_nonneg, List.drop_zero, or_true, true_or, or_false, false_or, Bool.not_true, Bool.not_false, Bool.false_eq_true, decide_eq_true_eq, ge_iff_le, gt_iff_lt, hx, encI, (show (i : Int) < ds.length by omega), (show ¬ d < c.rng by omega), hw2, (show ¬ 2 * c.rng < d by omega), w64_succ (show i < 4611686018427387904 by omega), Rd.go_next]
    · have hwl : w64 ((c.frames.length : Int) + (ds.length : Int)) = ((c.frames.length + ds.length : Nat) : Int) := by rw [w64_id (by omega) (by omega)]; omega
      simp only [L17_1, vI_mk, vB_mk, vS_mk, vL_mk, sVer_mk, sOff_mk, sLen_mk, oVer_mk, oEs_mk, cI_mk, cB_mk, cS_mk, cL_mk, cVer_mk, cOff_mk, cLen_mk, gI_zero, gI_succ, gB_zero, gB_succ, gS_zero, gS_succ, gL_zero, gL_succ, okI_zero, okI_succ, okB_zero, okB_succ, okS_zero, okS_succ, okL_zero, okL_succ, isIntT_int, isBoolT_bool, isStrT_str, isSlT_sl, intOf_int, boolOf_bool, strOf_str, slOf_sl, treeOf_t, srVer_sref, srOff_sref, srLen_sref, ver_row, esOf_row, cellOf_box, aI_mk, aB_mk, aS_mk, aL_mk, aggOf_agg, join_eq, List.getD_cons_zero, List.getD_cons_succ, decide_true, decide_false, cnd_true, cnd_false, true_and, and_true, false_and, and_false, Option.bind_some, Option.bind_none, List.length_cons, List.length_nil, List.length_map, List.getElem?_map, Option.map_some, Option.map_none, Int.toNat_natCast, reduceCtorEq, eq_self, if_true, if_false, Nat.zero_add, Nat.reduceAdd, Nat.reduceEqDiff, Int.natCast_nonneg, List.drop_zero, or_true, true_or, or_false, false_or, Bool.not_true, Bool.not_false, Bool.false_eq_true, decide_eq_true_eq, ge_iff_le, gt_iff_lt, Int.lt_irrefl, (show ¬ (0 : Int) ≤ -1 by omega), hwl, (show ¬ (10000 : Int) < ((c.frames.length + ds.length : Nat) : Int) by omega)]
      refine ev_unused (Ev.rw (T' := ?TT2) (s1000026 (c.frames.map Frame.enc) (by simp; omega)) (fun n h => ?g3) ?g4)
      case g3 =>
        simp only [h, vI_mk, vB_mk, vS_mk, vL_mk, sVer_mk, sOff_mk, sLen_mk, oVer_mk, oEs_mk, cI_mk, cB_mk, cS_mk, cL_mk, cVer_mk, cOff_mk, cLen_mk, gI_zero, gI_succ, gB_zero, gB_succ, gS_zero, gS_succ, gL_zero, gL_succ, okI_zero, okI_succ, okB_zero, okB_succ, okS_zero, okS_succ, okL_zero, okL_succ, isIntT_int, isBoolT_bool, isStrT_str, isSlT_sl, intOf_int, boolOf_bool, strOf_str, slOf_sl, treeOf_t, srVer_sref, srOff_sref, srLen_sref, ver_row, esOf_row, cellOf_box, aI_mk, aB_mk, aS_mk, aL_mk, aggOf_agg, join_eq, List.getD_cons_zero, List.getD_cons_succ, decide_true, decide_false, cnd_true, cnd_false, true_and, and_true, false_and, and_false, Option.bind_some, Option.bind_none, List.length_cons, List.length_nil, List.length_map, List.getElem?_map, Option.map_some, Option.map_none, Int.toNat_natCast, reduceCtorEq, eq_self, if_true, if_false, Nat.zero_add, Nat.reduceAdd, Nat.reduceEqDiff, Int.natCast_nonneg, List.drop_zero, or_true, true_or, or_false, false_or, Bool.not_true, Bool.not_false, Bool.false_eq_true, decide_eq_true_eq, ge_iff_le, gt_iff_lt]
        rfl
      case g4 =>
        refine loop_overQ (fun (fs : List Frame) => (⟨c.rng, fs, c.sent + 1, c.lost + lostBy c ds⟩ : Chan).enc ++ [tI 0]) ds (fun i (s : Nat × List Frame) => (([.t (tI i)], [.box [.t (tI c.rng), .t (.sl 10 (c.frames.map Frame.enc)), .t (tI c.sent), .t (tI c.lost)], .row false 0 10 [], .box [.t (tI 0), .sref 1 0 0 0, .t (tI 0), .t (tI 0)], .row false s.1 10 (s.2.map Frame.enc), .row false 0 10 [], .box [.sref 3 s.1 0 s.2.length]]) : List AV × Heap))
          (fun _ s d => .next (s.1 + 1, insF at_ c.sent ser s.2 d)) (fun s => s.2) (fun i s => s.2.Pairwise (fun a b => a.arr ≤ b.arr) ∧ s.2.length = c.frames.length + i) (0, c.frames) (by simp) ⟨hc.srt, by simp⟩ ?_
          (fun i s d hx hI => ?_) (fun i s d s' hx hI hs' => ?_) (fun s hI => ?_)
        · rw [runL_fold]
          have : ∀ (ds : List Int) (s : Nat × List Frame), (ds.foldl (fun (s : Nat × List Frame) d => (s.1 + 1, insF at_ c.sent ser s.2 d)) s).2 = sendF at_ c.sent ser ds s.2 := by
            intro ds
            induction ds with
            | nil => intro s; rfl
            | cons d ds ih => intro s; exact ih _
          exact this ds (0, c.frames)
        · have hi := lt_of_some hx
          have hdd := hd d (List.mem_of_getElem? hx)
          obtain ⟨v, fs⟩ := s
          obtain ⟨hsr, hfl⟩ := hI
          simp only at hsr hfl
          have hwd : w64 (at_ + d) = at_ + d := w64_id (by omega) (by omega)
          have hins : insF at_ c.sent ser fs d = fs.take (fs.countP fun x => decide (x.arr ≤ at_ + d)) ++ ⟨at_ + d, c.sent, ser⟩ :: fs.drop (fs.countP fun x => decide (x.arr ≤ at_ + d)) := by
            unfold insF
            rw [insB_tw]
            obtain ⟨h1, h2⟩ := countP_down (down_arr (at_ + d) hsr)
            rw [h1, h2]
            have hf : (fun x : Frame => !decide (x.arr > at_ + d)) = fun x => decide (x.arr ≤ at_ + d) := by
              funext x
              rw [Bool.eq_iff_iff]
              simp
            rw [hf]
          have key := bs_overZ (R := List Tree) (Z := List AV × Heap → Option (List Tree))
            (B := fun n z p again => L17_2 n at_ [tI d] (fun p32 => cnd (oVer p32 3 = cVer p32 5 0 ∧ (cOff p32 5 0) + (cLen p32 5 0) = List.length (oEs p32 3) ∧ (cLen p32 5 0) + 1 ≤ (1073741824:Nat) ∧ 0 ≤ vI p32 0 ∧ vI p32 0 ≤ ((cLen p32 5 0 : Nat) : Int)) (z p32) none) p again)
            (fun z (k : Nat) => z ([.t (tI k)], [.box [.t (tI c.rng), .t (.sl 10 (c.frames.map Frame.enc)), .t (tI c.sent), .t (tI c.lost)], .row false 0 10 [], .box [.t (tI 0), .sref 1 0 0 0, .t (tI 0), .t (tI 0)], .row false v 10 (fs.map Frame.enc), .row false 0 10 [], .box [.sref 3 v 0 fs.length], .box []]))
            (fun x : Frame => decide (x.arr ≤ at_ + d)) fs id (fun s => (([.t (tI s.1), .t (tI s.2)], [.box [.t (tI c.rng), .t (.sl 10 (c.frames.map Frame.enc)), .t (tI c.sent), .t (tI c.lost)], .row false 0 10 [], .box [.t (tI 0), .sref 1 0 0 0, .t (tI 0), .t (tI 0)], .row false v 10 (fs.map Frame.enc), .row false 0 10 [], .box [.sref 3 v 0 fs.length], .box []]) : List AV × Heap)) (down_arr _ hsr) rfl
            (fun s a1 a2 a3 => Ev.of fun n z again => by
              obtain ⟨a, b⟩ := s
              simp only at a1 a2 a3
              by_cases hab : a < b
              · have hm : fs[(a + b) / 2]? = some fs[(a + b) / 2] := List.getElem?_eq_getElem (by omega)
                simp only [L17_2, vI_mk, vB_mk, vS_mk, vL_mk, sVer_mk, sOff_mk, sLen_mk, oVer_mk, oEs_mk, cI_mk, cB_mk, cS_mk, cL_mk, cVer_mk, cOff_mk, cLen_mk, gI_zero, gI_succ, gB_zero, gB_succ, gS_zero, gS_succ, gL_zero, gL_succ, okI_zero, okI_succ, okB_zero, okB_succ, okS_zero, okS_succ, okL_zero, okL_succ, isIntT_int, isBoolT_bool, isStrT_str, isSlT_sl, intOf_int, boolOf_bool, strOf_str, slOf_sl, treeOf_t, srVer_sref, srOff_sref, srLen_sref, ver_row, esOf_row, cellOf_box, aI_mk, aB_mk, aS_mk, aL_mk, aggOf_agg, join_eq, List.getD_cons_zero, List.getD_cons_succ, decide_true, decide_false, cnd_true, cnd_false, true_and, and_true, false_and, and_false, Option.bind_some, Option.bind_none, List.length_cons, List.length_nil, List.length_map, List.getElem?_map, Option.map_some, Option.map_none, Int.toNat_natCast, reduceCtorEq, eq_self, if_true, if_false, Nat.zero_add, Nat.reduceAdd, Nat.reduceEqDiff, Int.natCast_nonneg, List.drop_zero, or_true, true_or, or_false, false_or, Bool.not_true, Bool.not_false, Bool.false_eq_true, decide_eq_true_eq, ge_iff_le, gt_iff_lt, halfU a b (by omega), hm, Frame.enc, (show (a : Int) < (b : Int) by omega), bsStep, if_pos hab, (show (((a + b) / 2 : Nat) : Int) < (fs.length : Int) by omega), w64_succ (show (a + b) / 2 < 4611686018427387904 by omega), hwd]
                by_cases hx : (fs[(a + b) / 2]).arr ≤ at_ + d
                · simp only [hx, (show ¬ at_ + d < (fs[(a + b) / 2]).arr by omega), vI_mk, vB_mk, vS_mk, vL_mk, sVer_mk, sOff_mk, sLen_mk, oVer_mk, oEs_mk, cI_mk, cB_mk, cS_mk, cL_mk, cVer_mk, cOff_mk, cLen_mk, gI_zero, gI_succ, gB_zero, gB_succ, gS_zero, gS_succ, gL_zero, gL_succ, okI_zero, okI_succ, okB_zero, okB_succ, okS_zero, okS_succ, okL_zero, okL_succ, isIntT_int, isBoolT_bool, isStrT_str, isSlT_sl, intOf_int, boolOf_bool, strOf_str, slOf_sl, treeOf_t, srVer_sref, srOff_sref, srLen_sref, ver_row, esOf_row, cellOf_box, aI_mk, aB_mk, aS_mk, aL_mk, aggOf_agg, join_eq, List.getD_cons_zero, List.getD_cons_succ, decide_true, decide_false, cnd_true, cnd_false, true_and, and_true, false_and, and_false, Option.bind_some, Option.bind_none, List.length_cons, List.length_nil, List.length_map, List.getElem?_map, Option.map_some, Option.map_none, Int.toNat_natCast, reduceCtorEq, eq_self, if_true, if_false, Nat.zero_add, Nat.reduceAdd, Nat.reduceEqDiff, Int.natCast_nonneg, List.drop_zero, or_true, true_or, or_false, false_or, Bool.not_true, Bool.not_false, Bool.false_eq_true, decide_eq_true_eq, ge_iff_le, gt_iff_lt, Rd.go_next]
                · simp only [hx, (show at_ + d < (fs[(a + b) / 2]).arr by omega), vI_mk, vB_mk, vS_mk, vL_mk, sVer_mk, sOff_mk, sLen_mk, oVer_mk, oEs_mk, cI_mk, cB_mk, cS_mk, cL_mk, cVer_mk, cOff_mk, cLen_mk, gI_zero, gI_succ, gB_zero, gB_succ, gS_zero, gS_succ, gL_zero, gL_succ, okI_zero, okI_succ, okB_zero, okB_succ, okS_zero, okS_succ, okL_zero, okL_succ, isIntT_int, isBoolT_bool, isStrT_str, isSlT_sl, intOf_int, boolOf_bool, strOf_str, slOf_sl, treeOf_t, srVer_sref, srOff_sref, srLen_sref, ver_row, esOf_row, cellOf_box, aI_mk, aB_mk, aS_mk, aL_mk, aggOf_agg, join_eq, List.getD_cons_zero, List.getD_cons_succ, decide_true, decide_false, cnd_true, cnd_false, true_and, and_true, false_and, and_false, Option.bind_some, Option.bind_none, List.length_cons, List.length_nil, List.length_map, List.getElem?_map, Option.map_some, Option.map_none, Int.toNat_natCast, reduceCtorEq, eq_self, if_true, if_false, Nat.zero_add, Nat.reduceAdd, Nat.reduceEqDiff, Int.natCast_nonneg, List.drop_zero, or_true, true_or, or_false, false_or, Bool.not_true, Bool.not_false, Bool.false_eq_true, decide_eq_true_eq, ge_iff_le, gt_iff_lt, Rd.go_next]
              · obtain rfl : a = b := by omega
                simp only [L17_2, vI_mk, vB_mk, vS_mk, vL_mk, sVer_mk, sOff_mk, sLen_mk, oVer_mk, oEs_mk, cI_mk, cB_mk, cS_mk, cL_mk, cVer_mk, cOff_mk, cLen_mk, gI_zero, gI_succ, gB_zero, gB_succ, gS_zero, gS_succ, gL_zero, gL_succ, okI_zero, okI_succ, okB_zero, okB_succ, okS_zero, okS_succ, okL_zero, okL_succ, isIntT_int, isBoolT_bool, isStrT_str, isSlT_sl, intOf_int, boolOf_bool, strOf_str, slOf_sl, treeOf_t, srVer_sref, srOff_sref, srLen_sref, ver_row, esOf_row, cellOf_box, aI_mk, aB_mk, aS_mk, aL_mk, aggOf_agg, join_eq, List.getD_cons_zero, List.getD_cons_succ, decide_true, decide_false, cnd_true, cnd_false, true_and, and_true, false_and, and_false, Option.bind_some, Option.bind_none, List.length_cons, List.length_nil, List.length_map, List.getElem?_map, Option.map_some, Option.map_none, Int.toNat_natCast, reduceCtorEq, eq_self, if_true, if_false, Nat.zero_add, Nat.reduceAdd, Nat.reduceEqDiff, Int.natCast_nonneg, List.drop_zero, or_true, true_or, or_false, false_or, Bool.not_true, Bool.not_false, Bool.false_eq_true, decide_eq_true_eq, ge_iff_le, gt_iff_lt, Int.lt_irrefl, bsStep, Nat.lt_irrefl, Rd.go_done, id, (show fs.length + 1 ≤ 1073741824 by omega), (show (a : Int) ≤ (fs.length : Int) by omega)])
          have hkl : fs.countP (fun x : Frame => decide (x.arr ≤ at_ + d)) ≤ fs.length := List.countP_le_length
          refine key.mono fun n h again => ?_
          have h := h (fun p32 => again ([.t (tI ((i + 1 : Nat) : Int))], [.box [.t (tI (cI p32 0 0)), .t (.sl 10 (cL p32 0 1)), .t (tI (cI p32 0 2)), .t (tI (cI p32 0 3))], .row false (oVer p32 1) 10 (oEs p32 1), .box [.t (tI (cI p32 2 0)), .sref 1 (cVer p32 2 1) (cOff p32 2 1) (cLen p32 2 1), .t (tI (cI p32 2 2)), .t (tI (cI p32 2 3))], .row false (cVer p32 5 0 + 1) 10 (((List.take (Int.toNat (vI p32 0)) (List.drop (cOff p32 5 0) (oEs p32 3))) ++ [[tI (at_ + d), tI c.sent, tI 0, tI 0, tI ser, tI 0, tI 0, Tree.bool false, Tree.str (ByteArray.mk #[]), Tree.sl 2 []]]) ++ (List.drop (Int.toNat (vI p32 0)) (List.drop (cOff p32 5 0) (oEs p32 3)))), .row false (oVer p32 4) 10 (oEs p32 4), .box [.sref 3 (cVer p32 5 0 + 1) 0 (cLen p32 5 0 + 1)]]))
          simp only [L17_3, vI_mk, vB_mk, vS_mk, vL_mk, sVer_mk, sOff_mk, sLen_mk, oVer_mk, oEs_mk, cI_mk, cB_mk, cS_mk, cL_mk, cVer_mk, cOff_mk, cLen_mk, gI_zero, gI_succ, gB_zero, gB_succ, gS_zero, gS_succ, gL_zero, gL_succ, okI_zero, okI_succ, okB_zero, okB_succ, okS_zero, okS_succ, okL_zero, okL_succ, isIntT_int, isBoolT_bool, isStrT_str, isSlT_sl, intOf_int, boolOf_bool, strOf_str, slOf_sl, treeOf_t, srVer_sref, srOff_sref, srLen_sref, ver_row, esOf_row, cellOf_box, aI_mk, aB_mk, aS_mk, aL_mk, aggOf_agg, join_eq, List.getD_cons_zero, List.getD_cons_succ, decide_true, decide_false, cnd_true, cnd_false, true_and, and_true, false_and, and_false, Option.bind_some, Option.bind_none, List.length_cons, List.length_nil, List.length_map, List.getElem?_map, Option.map_some, Option.map_none, Int.toNat_natCast, reduceCtorEq, eq_self, if_true, if_false, Nat.zero_add, Nat.reduceAdd, Nat.reduceEqDiff, Int.natCast_nonneg, List.drop_zero, or_true, true_or, or_false, false_or, Bool.not_true, Bool.not_false, Bool.false_eq_true, decide_eq_true_eq, ge_iff_le, gt_iff_lt, hx, encI, (show (i : Int) < ds.length by omega), hwd, w64_succ (show i < 4611686018427387904 by omega), Rd.go_next]
          refine h.trans ?_
          simp only [vI_mk, vB_mk, vS_mk, vL_mk, sVer_mk, sOff_mk, sLen_mk, oVer_mk, oEs_mk, cI_mk, cB_mk, cS_mk, cL_mk, cVer_mk, cOff_mk, cLen_mk, gI_zero, gI_succ, gB_zero, gB_succ, gS_zero, gS_succ, gL_zero, gL_succ, okI_zero, okI_succ, okB_zero, okB_succ, okS_zero, okS_succ, okL_zero, okL_succ, isIntT_int, isBoolT_bool, isStrT_str, isSlT_sl, intOf_int, boolOf_bool, strOf_str, slOf_sl, treeOf_t, srVer_sref, srOff_sref, srLen_sref, ver_row, esOf_row, cellOf_box, aI_mk, aB_mk, aS_mk, aL_mk, aggOf_agg, join_eq, List.getD_cons_zero, List.getD_cons_succ, decide_true, decide_false, cnd_true, cnd_false, true_and, and_true, false_and, and_false, Option.bind_some, Option.bind_none, List.length_cons, List.length_nil, List.length_map, List.getElem?_map, Option.map_some, Option.map_none, Int.toNat_natCast, reduceCtorEq, eq_self, if_true, if_false, Nat.zero_add, Nat.reduceAdd, Nat.reduceEqDiff, Int.natCast_nonneg, List.drop_zero, or_true, true_or, or_false, false_or, Bool.not_true, Bool.not_false, Bool.false_eq_true, decide_eq_true_eq, ge_iff_le, gt_iff_lt, id]
          have hil := insF_len at_ c.sent ser fs d
          rw [hil, hins]
          simp [Frame.enc, List.map_take, List.map_drop]
        · have hi := lt_of_some hx
          simp only [Rd.next.injEq] at hs'
          subst hs'
          exact ⟨insF_srt hI.1, by rw [insF_len, hI.2]; omega⟩
        · obtain ⟨v, fs⟩ := s
          simp only at hI
          refine (s8 ds c.rng (by omega)).mono fun n h again => ?_
          have e1 : List.take fs.length (List.map Frame.enc fs) = List.map Frame.enc fs := List.take_of_length_le (by simp)
          have w1 : w64 (c.sent + 1) = c.sent + 1 := w64_id (by omega) (by omega)
          have w2 : w64 (c.lost + 1) = c.lost + 1 := w64_id (by omega) (by omega)
          by_cases hm : c.rng ∈ ds
          · simp only [L17_3, vI_mk, vB_mk, vS_mk, vL_mk, sVer_mk, sOff_mk, sLen_mk, oVer_mk, oEs_mk, cI_mk, cB_mk, cS_mk, cL_mk, cVer_mk, cOff_mk, cLen_mk, gI_zero, gI_succ, gB_zero, gB_succ, gS_zero, gS_succ, gL_zero, gL_succ, okI_zero, okI_succ, okB_zero, okB_succ, okS_zero, okS_succ, okL_zero, okL_succ, isIntT_int, isBoolT_bool, isStrT_str, isSlT_sl, intOf_int, boolOf_bool, strOf_str, slOf_sl, treeOf_t, srVer_sref, srOff_sref, srLen_sref, ver_row, esOf_row, cellOf_box, aI_mk, aB_mk, aS_mk, aL_mk, aggOf_agg, join_eq, List.getD_cons_zero, List.getD_cons_succ, decide_true, decide_false, cnd_true, cnd_false, true_and, and_true, false_and, and_false, Option.bind_some, Option.bind_none, List.length_cons, List.length_nil, List.length_map, List.getElem?_map, Option.map_some, Option.map_none, Int.toNat_natCast, reduceCtorEq, eq_self, if_true, if_false, Nat.zero_add, Nat.reduceAdd, Nat.reduceEqDiff, Int.natCast_nonneg, List.drop_zero, or_true, true_or, or_false, false_or, Bool.not_true, Bool.not_false, Bool.false_eq_true, decide_eq_true_eq, ge_iff_le, gt_iff_lt, Int.lt_irrefl, h, hm, e1, w1, w2, lostBy, Chan.enc]
            simp
          · simp only [L17_3, vI_mk, vB_mk, vS_mk, vL_mk, sVer_mk, sOff_mk, sLen_mk, oVer_mk, oEs_mk, cI_mk, cB_mk, cS_mk, cL_mk, cVer_mk, cOff_mk, cLen_mk, gI_zero, gI_succ, gB_zero, gB_succ, gS_zero, gS_succ, gL_zero, gL_succ, okI_zero, okI_succ, okB_zero, okB_succ, okS_zero, okS_succ, okL_zero, okL_succ, isIntT_int, isBoolT_bool, isStrT_str, isSlT_sl, intOf_int, boolOf_bool, strOf_str, slOf_sl, treeOf_t, srVer_sref, srOff_sref, srLen_sref, ver_row, esOf_row, cellOf_box, aI_mk, aB_mk, aS_mk, aL_mk, aggOf_agg, join_eq, List.getD_cons_zero, List.getD_cons_succ, decide_true, decide_false, cnd_true, cnd_false, true_and, and_true, false_and, and_false, Option.bind_some, Option.bind_none, List.length_cons, List.length_nil, List.length_map, List.getElem?_map, Option.map_some, Option.map_none, Int.toNat_natCast, reduceCtorEq, eq_self, if_true, if_false, Nat.zero_add, Nat.reduceAdd, Nat.reduceEqDiff, Int.natCast_nonneg, List.drop_zero, or_true, true_or, or_false, false_or, Bool.not_true, Bool.not_false, Bool.false_eq_true, decide_eq_true_eq, ge_iff_le, gt_iff_lt, Int.lt_irrefl, h, hm, e1, w1, w2, lostBy, Chan.enc]
            simp
end Ab
