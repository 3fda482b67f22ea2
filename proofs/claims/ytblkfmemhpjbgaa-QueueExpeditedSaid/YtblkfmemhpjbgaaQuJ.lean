/- Queue: Serve of the program, its parts. -/
import Derived.Test.YtblkfmemhpjbgaaQuI
set_option linter.unusedVariables false
set_option linter.unusedSimpArgs false
set_option maxHeartbeats 1000000
namespace Ab
open Go


/-! ### the program's order of what waits -/
def takeP (t : Int) (s : QS) : QS := { s with wait := s.wait ++ (s.co.takeWhile fun a => decide (a.at_ = t)).map Arr.e, co := s.co.dropWhile fun a => decide (a.at_ = t) }
def preP (t : Int) (s : QS) : QS := if s.busy = true ∧ (s.wait.any fun x => decide (pre x s.now)) = true then { s with busy := false, wait := freshQ (s.wait ++ [s.now]) t } else s
def minE : List Entry → Entry
  | [] => zeroE
  | x :: r => r.foldl (fun m y => if ahead y m = true then y else m) x
def begP (rate t : Int) (s : QS) : QS := if s.busy = true ∨ s.wait = [] then s else { s with now := minE s.wait, wait := removeQ s.wait (minE s.wait).ticket, busy := true, fin := t + durQ rate (minE s.wait) }
def stepP (l : List Arr) (rate t : Int) (s : QS) : QS := begP rate t (preP t (expQ t (takeP t (endQ l t s))))

/-! ### states -/
abbrev bxS (rate : Int) (s : QS) (v : Nat) : AObj := .box [.t (tI rate), .t (.sl 5 (s.co.map Arr.enc)), .sref 3 v 0 s.wait.length, .t (.bool s.busy), .t (tI s.now.ticket), .t (tI s.now.prio), .t (tI s.now.exp), .t (tI s.now.size), .t (tI s.fin)]
def hP (rate : Int) (s : QS) (v : Nat) (es : List (List Tree)) : Heap := [.row false 0 1 (s.out.map encI), .row false 0 1 [], .box [.sref 0 0 0 s.out.length], .row false v 4 es, bxS rate s v, .box [.ptr 4 0], .box []]
def hP1 (rate : Int) (s : QS) (v : Nat) (es : List (List Tree)) : Heap := [.row false 0 1 (s.out.map encI), .row false 0 1 [], .box [.sref 0 0 0 s.out.length], .row false v 4 es, bxS rate s v, .box [.ptr 4 0], .box [], .box [.ptr 4 0]]
/-- A row whose first cells hold what waits. -/
def Holds (w : List Entry) (es : List (List Tree)) : Prop := ∃ ex, es = w.map Entry.enc ++ ex
theorem Holds.get {w : List Entry} {es : List (List Tree)} (h : Holds w es) {i : Nat} {x : Entry} (hx : w[i]? = some x) : es[i]? = some x.enc := by
  obtain ⟨ex, rfl⟩ := h
  have hi := lt_of_some hx
  rw [List.getElem?_append_left (by simpa using hi), List.getElem?_map, hx]
  rfl
theorem Holds.take {w : List Entry} {es : List (List Tree)} (h : Holds w es) : List.take w.length es = w.map Entry.enc := by
  obtain ⟨ex, rfl⟩ := h
  rw [List.take_append_of_le_length (by simp), List.take_of_length_le (by simp)]
theorem Holds.len {w : List Entry} {es : List (List Tree)} (h : Holds w es) : w.length ≤ es.length := by
  obtain ⟨ex, rfl⟩ := h
  simp
theorem Holds.self (w : List Entry) : Holds w (w.map Entry.enc) := ⟨[], by simp⟩

/-! ### the beginning of a transmission -/
theorem minE_mem : ∀ (w : List Entry) (m : Entry), w.foldl (fun m y => if ahead y m = true then y else m) m = m ∨ w.foldl (fun m y => if ahead y m = true then y else m) m ∈ w
  | [], m => .inl rfl
  | x :: w, m => by
    rw [List.foldl_cons]
    split
    · rcases minE_mem w x with h | h
      · right; rw [h]; simp
      · right; simp [h]
    · rcases minE_mem w m with h | h
      · exact .inl h
      · right; simp [h]
theorem minE_in {w : List Entry} (h : w ≠ []) : minE w ∈ w := by
  cases w with
  | nil => exact absurd rfl h
  | cons x r =>
    show r.foldl (fun m y => if ahead y m = true then y else m) x ∈ x :: r
    rcases minE_mem r x with h | h
    · rw [h]; simp
    · simp [h]
theorem min_fold (x : Entry) (r : List Entry) (i : Nat) (y : Entry) (h : (x :: r)[i + 1]? = some y) : minE ((x :: r).take (i + 2)) = if ahead y (minE ((x :: r).take (i + 1))) = true then y else minE ((x :: r).take (i + 1)) := by
  have hr : r[i]? = some y := by simpa using h
  simp only [List.take_succ_cons, minE]
  have : r.take (i + 1) = r.take i ++ [y] := by rw [List.take_add_one, hr]; rfl
  rw [this, List.foldl_append]
  rfl
theorem p5 (l : List Arr) (hl : l.length ≤ 64) {rate : Int} (hr : 1 ≤ rate ∧ rate ≤ 1000) {t : Int} (ht : 0 ≤ t ∧ t ≤ 1099520016384) (s : QS) (hs : QMid l s) (v : Nat) (es : List (List Tree)) (he : Holds s.wait es) (p6 : List AV × Heap) (h6 : vI p6 0 = t) :
    ∃ v' es', Holds (begP rate t s).wait es' ∧ Ev fun n => ∀ z, J13_21 n z p6 ([], hP1 rate s v es) = z ([], hP rate (begP rate t s) v' es') := by
  have hwl := hs.wl
  cases hb : s.busy with
  | true =>
    have : begP rate t s = s := by unfold begP; rw [if_pos (.inl hb)]
    rw [this]
    refine ⟨v, es, he, Ev.of fun n z => ?_⟩
    simp only [J13_21, J13_20, J13_19, hP, hP1, bxS, vI_mk, vB_mk, vS_mk, vL_mk, sVer_mk, sOff_mk, sLen_mk, oVer_mk, oEs_mk, cI_mk, cB_mk, cS_mk, cL_mk, cVer_mk, cOff_mk, cLen_mk, gI_zero, gI_succ, gB_zero, gB_succ, gS_zero, gS_succ, gL_zero, gL_succ, okI_zero, okI_succ, okB_zero, okB_succ, okS_zero, okS_succ, okL_zero, okL_succ, isIntT_int, isBoolT_bool, isStrT_str, isSlT_sl, intOf_int, boolOf_bool, strOf_str, slOf_sl, treeOf_t, srVer_sref, srOff_sref, srLen_sref, ver_row, esOf_row, cellOf_box, aI_mk, aB_mk, aS_mk, aL_mk, aggOf_agg, join_eq, List.getD_cons_zero, List.getD_cons_succ, decide_true, decide_false, cnd_true, cnd_false, true_and, and_true, false_and, and_false, Option.bind_some, Option.bind_none, List.length_cons, List.length_nil, List.length_map, List.getElem?_map, Option.map_some, Option.map_none, Int.toNat_natCast, reduceCtorEq, eq_self, if_true, if_false, Nat.zero_add, Nat.reduceAdd, Nat.reduceEqDiff, Int.natCast_nonneg, List.drop_zero, or_true, true_or, or_false, false_or, Bool.not_true, Bool.not_false, Bool.false_eq_true, decide_eq_true_eq, ge_iff_le, gt_iff_lt, hb]
  | false =>
    cases hw : s.wait with
    | nil =>
      have : begP rate t s = s := by unfold begP; rw [if_pos (.inr hw)]
      rw [this]
      refine ⟨v, es, by rw [hw] at he ⊢; exact he, Ev.of fun n z => ?_⟩
      simp only [J13_21, J13_20, J13_19, hP, hP1, bxS, vI_mk, vB_mk, vS_mk, vL_mk, sVer_mk, sOff_mk, sLen_mk, oVer_mk, oEs_mk, cI_mk, cB_mk, cS_mk, cL_mk, cVer_mk, cOff_mk, cLen_mk, gI_zero, gI_succ, gB_zero, gB_succ, gS_zero, gS_succ, gL_zero, gL_succ, okI_zero, okI_succ, okB_zero, okB_succ, okS_zero, okS_succ, okL_zero, okL_succ, isIntT_int, isBoolT_bool, isStrT_str, isSlT_sl, intOf_int, boolOf_bool, strOf_str, slOf_sl, treeOf_t, srVer_sref, srOff_sref, srLen_sref, ver_row, esOf_row, cellOf_box, aI_mk, aB_mk, aS_mk, aL_mk, aggOf_agg, join_eq, List.getD_cons_zero, List.getD_cons_succ, decide_true, decide_false, cnd_true, cnd_false, true_and, and_true, false_and, and_false, Option.bind_some, Option.bind_none, List.length_cons, List.length_nil, List.length_map, List.getElem?_map, Option.map_some, Option.map_none, Int.toNat_natCast, reduceCtorEq, eq_self, if_true, if_false, Nat.zero_add, Nat.reduceAdd, Nat.reduceEqDiff, Int.natCast_nonneg, List.drop_zero, or_true, true_or, or_false, false_or, Bool.not_true, Bool.not_false, Bool.false_eq_true, decide_eq_true_eq, ge_iff_le, gt_iff_lt, hb, hw, Int.natCast_zero, Int.lt_irrefl]
    | cons x r =>
      have hne : s.wait ≠ [] := by rw [hw]; simp
      have hbeg : begP rate t s = { s with now := minE s.wait, wait := removeQ s.wait (minE s.wait).ticket, busy := true, fin := t + durQ rate (minE s.wait) } := by unfold begP; rw [if_neg (by simp [hb, hne])]
      rw [hbeg]
      refine ⟨v + 1, (removeQ s.wait (minE s.wait).ticket).map Entry.enc, Holds.self _, ?_⟩
      have hm : ValidE (minE s.wait) := hs.wv _ (minE_in hne)
      obtain ⟨d1, d2, d3⟩ := dur_bd hr hm
      have hsz := hm
      unfold ValidE at hsz
      have w1 : w64 ((minE s.wait).size + rate) = (minE s.wait).size + rate := w64_id (by omega) (by omega)
      have w2 : w64 ((minE s.wait).size + rate - 1) = (minE s.wait).size + rate - 1 := w64_id (by omega) (by omega)
      have w3 : w64 (durQ rate (minE s.wait)) = durQ rate (minE s.wait) := w64_id (by omega) (by omega)
      have w4 : w64 (t + durQ rate (minE s.wait)) = t + durQ rate (minE s.wait) := w64_id (by omega) (by omega)
      have hlen : s.wait.length = r.length + 1 := by rw [hw]; rfl
      have hx0 : s.wait[0]? = some x := by rw [hw]; rfl
      have g0 := he.get hx0
      have htk := he.take
      have key := loop_overZ (R := List Tree) (Z := List AV × Heap → Option (List Tree)) (B := fun n z p again => L13_17 n ([.t (.bool true)], hP1 rate s v es) z p again) (r := ())
        (s := (([.t (tI 1)], hP1 rate s v es ++ [.box [.t (tI 0), .t (tI 0), .t (tI 0), .t (tI 0)], bxE x]) : List AV × Heap)) r
        (fun i (_ : Unit) => (([.t (tI ((i + 1 : Nat) : Int))], hP1 rate s v es ++ [.box [.t (tI 0), .t (tI 0), .t (tI 0), .t (tI 0)], bxE (minE (s.wait.take (i + 1)))]) : List AV × Heap)) (fun _ _ _ => .next ()) (fun _ => ())
        (fun z _ => z ([.t (tI (minE s.wait).ticket), .t (tI (minE s.wait).prio), .t (tI (minE s.wait).exp), .t (tI (minE s.wait).size)], hP1 rate s v es)) (fun _ _ => True) () (by rw [hw]; rfl) trivial (runL_fold (fun _ _ => ()) (fun _ => ()) 0 _ ())
        (fun i u y hy hI => ?_) (fun _ _ _ _ _ _ _ => trivial) (fun u hI => Ev.of fun n z again => ?_)
      · refine (key.and (s1000029 s.wait (minE s.wait).ticket (by omega))).mono fun n h z => ?_
        obtain ⟨k1, k2⟩ := h
        simp only [hP1, bxS, bxE, hb, List.cons_append, List.nil_append] at k1
        simp only [Entry.enc] at g0
        simp only [J13_21, J13_20, J13_19, J13_18, hP, hP1, bxS, vI_mk, vB_mk, vS_mk, vL_mk, sVer_mk, sOff_mk, sLen_mk, oVer_mk, oEs_mk, cI_mk, cB_mk, cS_mk, cL_mk, cVer_mk, cOff_mk, cLen_mk, gI_zero, gI_succ, gB_zero, gB_succ, gS_zero, gS_succ, gL_zero, gL_succ, okI_zero, okI_succ, okB_zero, okB_succ, okS_zero, okS_succ, okL_zero, okL_succ, isIntT_int, isBoolT_bool, isStrT_str, isSlT_sl, intOf_int, boolOf_bool, strOf_str, slOf_sl, treeOf_t, srVer_sref, srOff_sref, srLen_sref, ver_row, esOf_row, cellOf_box, aI_mk, aB_mk, aS_mk, aL_mk, aggOf_agg, join_eq, List.getD_cons_zero, List.getD_cons_succ, decide_true, decide_false, cnd_true, cnd_false, true_and, and_true, false_and, and_false, Option.bind_some, Option.bind_none, List.length_cons, List.length_nil, List.length_map, List.getElem?_map, Option.map_some, Option.map_none, Int.toNat_natCast, reduceCtorEq, eq_self, if_true, if_false, Nat.zero_add, Nat.reduceAdd, Nat.reduceEqDiff, Int.natCast_nonneg, List.drop_zero, or_true, true_or, or_false, false_or, Bool.not_true, Bool.not_false, Bool.false_eq_true, decide_eq_true_eq, ge_iff_le, gt_iff_lt, hb, (show (0 : Int) < (s.wait.length : Int) by omega), (show ¬ (s.wait.length : Int) < 1 by omega), g0, Int.le_refl, k1, htk, k2, (show ¬ rate = 0 by omega), w1, w2, d3, w3, w4, h6]
      · have hi := lt_of_some hy
        have hy2 : s.wait[i + 1]? = some y := by rw [hw]; simpa using hy
        have g := he.get hy2
        have hmf := min_fold x r i y (by simpa using hy)
        rw [← hw] at hmf
        refine (s46 y (minE (s.wait.take (i + 1)))).mono fun n h z again => ?_
        simp only [Entry.enc, List.cons_append, List.nil_append] at h g
        have hc := cmpE_neg y (minE (s.wait.take (i + 1)))
        simp only [L13_17, J13_16, hP1, bxS, bxE, vI_mk, vB_mk, vS_mk, vL_mk, sVer_mk, sOff_mk, sLen_mk, oVer_mk, oEs_mk, cI_mk, cB_mk, cS_mk, cL_mk, cVer_mk, cOff_mk, cLen_mk, gI_zero, gI_succ, gB_zero, gB_succ, gS_zero, gS_succ, gL_zero, gL_succ, okI_zero, okI_succ, okB_zero, okB_succ, okS_zero, okS_succ, okL_zero, okL_succ, isIntT_int, isBoolT_bool, isStrT_str, isSlT_sl, intOf_int, boolOf_bool, strOf_str, slOf_sl, treeOf_t, srVer_sref, srOff_sref, srLen_sref, ver_row, esOf_row, cellOf_box, aI_mk, aB_mk, aS_mk, aL_mk, aggOf_agg, join_eq, List.getD_cons_zero, List.getD_cons_succ, decide_true, decide_false, cnd_true, cnd_false, true_and, and_true, false_and, and_false, Option.bind_some, Option.bind_none, List.length_cons, List.length_nil, List.length_map, List.getElem?_map, Option.map_some, Option.map_none, Int.toNat_natCast, reduceCtorEq, eq_self, if_true, if_false, Nat.zero_add, Nat.reduceAdd, Nat.reduceEqDiff, Int.natCast_nonneg, List.drop_zero, or_true, true_or, or_false, false_or, Bool.not_true, Bool.not_false, Bool.false_eq_true, decide_eq_true_eq, ge_iff_le, gt_iff_lt, List.cons_append, List.nil_append, (show ((i + 1 : Nat) : Int) < (s.wait.length : Int) by omega), g, h, w64_succ (show i + 1 < 4611686018427387904 by omega), Rd.go_next, hmf]
        cases ha : ahead y (minE (s.wait.take (i + 1))) with
        | true =>
          have := hc.2 ha
          simp only [this, vI_mk, vB_mk, vS_mk, vL_mk, sVer_mk, sOff_mk, sLen_mk, oVer_mk, oEs_mk, cI_mk, cB_mk, cS_mk, cL_mk, cVer_mk, cOff_mk, cLen_mk, gI_zero, gI_succ, gB_zero, gB_succ, gS_zero, gS_succ, gL_zero, gL_succ, okI_zero, okI_succ, okB_zero, okB_succ, okS_zero, okS_succ, okL_zero, okL_succ, isIntT_int, isBoolT_bool, isStrT_str, isSlT_sl, intOf_int, boolOf_bool, strOf_str, slOf_sl, treeOf_t, srVer_sref, srOff_sref, srLen_sref, ver_row, esOf_row, cellOf_box, aI_mk, aB_mk, aS_mk, aL_mk, aggOf_agg, join_eq, List.getD_cons_zero, List.getD_cons_succ, decide_true, decide_false, cnd_true, cnd_false, true_and, and_true, false_and, and_false, Option.bind_some, Option.bind_none, List.length_cons, List.length_nil, List.length_map, List.getElem?_map, Option.map_some, Option.map_none, Int.toNat_natCast, reduceCtorEq, eq_self, if_true, if_false, Nat.zero_add, Nat.reduceAdd, Nat.reduceEqDiff, Int.natCast_nonneg, List.drop_zero, or_true, true_or, or_false, false_or, Bool.not_true, Bool.not_false, Bool.false_eq_true, decide_eq_true_eq, ge_iff_le, gt_iff_lt]
        | false =>
          have : ¬ cmpE y (minE (s.wait.take (i + 1))) < 0 := fun hh => by rw [hc.1 hh] at ha; cases ha
          simp only [this, vI_mk, vB_mk, vS_mk, vL_mk, sVer_mk, sOff_mk, sLen_mk, oVer_mk, oEs_mk, cI_mk, cB_mk, cS_mk, cL_mk, cVer_mk, cOff_mk, cLen_mk, gI_zero, gI_succ, gB_zero, gB_succ, gS_zero, gS_succ, gL_zero, gL_succ, okI_zero, okI_succ, okB_zero, okB_succ, okS_zero, okS_succ, okL_zero, okL_succ, isIntT_int, isBoolT_bool, isStrT_str, isSlT_sl, intOf_int, boolOf_bool, strOf_str, slOf_sl, treeOf_t, srVer_sref, srOff_sref, srLen_sref, ver_row, esOf_row, cellOf_box, aI_mk, aB_mk, aS_mk, aL_mk, aggOf_agg, join_eq, List.getD_cons_zero, List.getD_cons_succ, decide_true, decide_false, cnd_true, cnd_false, true_and, and_true, false_and, and_false, Option.bind_some, Option.bind_none, List.length_cons, List.length_nil, List.length_map, List.getElem?_map, Option.map_some, Option.map_none, Int.toNat_natCast, reduceCtorEq, eq_self, if_true, if_false, Nat.zero_add, Nat.reduceAdd, Nat.reduceEqDiff, Int.natCast_nonneg, List.drop_zero, or_true, true_or, or_false, false_or, Bool.not_true, Bool.not_false, Bool.false_eq_true, decide_eq_true_eq, ge_iff_le, gt_iff_lt]
      · have e1 : s.wait.take (r.length + 1) = s.wait := List.take_of_length_le (by omega)
        rw [e1]
        simp only [L13_17, hP1, bxS, bxE, vI_mk, vB_mk, vS_mk, vL_mk, sVer_mk, sOff_mk, sLen_mk, oVer_mk, oEs_mk, cI_mk, cB_mk, cS_mk, cL_mk, cVer_mk, cOff_mk, cLen_mk, gI_zero, gI_succ, gB_zero, gB_succ, gS_zero, gS_succ, gL_zero, gL_succ, okI_zero, okI_succ, okB_zero, okB_succ, okS_zero, okS_succ, okL_zero, okL_succ, isIntT_int, isBoolT_bool, isStrT_str, isSlT_sl, intOf_int, boolOf_bool, strOf_str, slOf_sl, treeOf_t, srVer_sref, srOff_sref, srLen_sref, ver_row, esOf_row, cellOf_box, aI_mk, aB_mk, aS_mk, aL_mk, aggOf_agg, join_eq, List.getD_cons_zero, List.getD_cons_succ, decide_true, decide_false, cnd_true, cnd_false, true_and, and_true, false_and, and_false, Option.bind_some, Option.bind_none, List.length_cons, List.length_nil, List.length_map, List.getElem?_map, Option.map_some, Option.map_none, Int.toNat_natCast, reduceCtorEq, eq_self, if_true, if_false, Nat.zero_add, Nat.reduceAdd, Nat.reduceEqDiff, Int.natCast_nonneg, List.drop_zero, or_true, true_or, or_false, false_or, Bool.not_true, Bool.not_false, Bool.false_eq_true, decide_eq_true_eq, ge_iff_le, gt_iff_lt, List.cons_append, List.nil_append, hlen, Int.lt_irrefl]
end Ab
