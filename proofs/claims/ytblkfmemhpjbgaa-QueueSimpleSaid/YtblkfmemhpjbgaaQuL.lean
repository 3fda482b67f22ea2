/- Parts of the proof: see the last text. -/
import Derived.Test.YtblkfmemhpjbgaaQuI
set_option linter.unusedVariables false
set_option linter.unusedSimpArgs false
set_option maxHeartbeats 1000000
namespace Ab
open Go


/-! ### the program's order of what waits -/
def takeP (t : Int) (s : QS) : QS := { s with wait := s.wait ++ (s.co.takeWhile fun a => decide (a.at_ = t)).map Arr.e, co := s.co.dropWhile fun a => decide (a.at_ = t) }
def preP (t : Int) (s : QS) : QS := if s.busy = true ∧ (s.wait.any fun x => decide (pre x s.now)) = true then { s with busy := false, wait := freshQ (s.wait ++ [s.now]) t } else s
def minE : List Entry → Entry
  | [] => zeroE
  | x :: r => r.foldl (fun m y => if ahead y m = true then y else m) x
def begP (rate t : Int) (s : QS) : QS := if s.busy = true ∨ s.wait = [] then s else { s with now := minE s.wait, wait := removeQ s.wait (minE s.wait).ticket, busy := true, fin := t + durQ rate (minE s.wait) }
def stepP (l : List Arr) (rate t : Int) (s : QS) : QS := begP rate t (preP t (expQ t (takeP t (endQ l t s))))

/-! ### states -/
abbrev bxS (rate : Int) (s : QS) (v : Nat) : AObj := .box [.t (tI rate), .t (.sl 5 (s.co.map Arr.enc)), .sref 3 v 0 s.wait.length, .t (.bool s.busy), .t (tI s.now.ticket), .t (tI s.now.prio), .t (tI s.now.exp), .t (tI s.now.size), .t (tI s.fin)]
def hP (rate : Int) (s : QS) (v : Nat) (es : List (List Tree)) : Heap := [.row false 0 1 (s.out.map encI), .row false 0 1 [], .box [.sref 0 0 0 s.out.length], .row false v 4 es, bxS rate s v, .box [.ptr 4 0], .box []]
def hP1 (rate : Int) (s : QS) (v : Nat) (es : List (List Tree)) : Heap := [.row false 0 1 (s.out.map encI), .row false 0 1 [], .box [.sref 0 0 0 s.out.length], .row false v 4 es, bxS rate s v, .box [.ptr 4 0], .box [], .box [.ptr 4 0]]
/-- A row whose first cells hold what waits. -/
def Holds (w : List Entry) (es : List (List Tree)) : Prop := ∃ ex, es = w.map Entry.enc ++ ex
theorem Holds.get {w : List Entry} {es : List (List Tree)} (h : Holds w es) {i : Nat} {x : Entry} (hx : w[i]? = some x) : es[i]? = some x.enc := by
  obtain ⟨ex, rfl⟩ := h
  have hi := lt_of_some hx
  rw [List.getElem?_append_left (by simpa using hi), List.getElem?_map, hx]
  rfl
theorem Holds.take {w : List Entry} {es : List (List Tree)} (h : Holds w es) : List.take w.length es = w.map Entry.enc := by
  obtain ⟨ex, rfl⟩ := h
  rw [List.take_append_of_le_length (by simp), List.take_of_length_le (by simp)]
theorem Holds.len {w : List Entry} {es : List (List Tree)} (h : Holds w es) : w.length ≤ es.length := by
  obtain ⟨ex, rfl⟩ := h
  simp
theorem Holds.self (w : List Entry) : Holds w (w.map Entry.enc) := ⟨[], by simp⟩

/-! ### the beginning of a transmission -/
theorem minE_mem : ∀ (w : List Entry) (m : Entry), w.foldl (fun m y => if ahead y m = true then y else m) m = m ∨ w.foldl (fun m y => if ahead y m = true then y else m) m ∈ w
  | [], m => .inl rfl
  | x :: w, m => by
    rw [List.foldl_cons]
    split
    · rcases minE_mem w x with h | h
      · right; rw [h]; simp
      · right; simp [h]
    · rcases minE_mem w m with h | h
      · exact .inl h
      · right; simp [h]
theorem minE_in {w : List Entry} (h : w ≠ []) : minE w ∈ w := by
  cases w with
  | nil => exact absurd rfl h
  | cons x r =>
    show r.foldl (fun m y => if ahead y m = true then y else m) x ∈ x :: r
    rcases minE_mem r x with h | h
    · rw [h]; simp
    · simp [h]
theorem min_fold (x : Entry) (r : List Entry) (i : Nat) (y : Entry) (h : (x :: r)[i + 1]? = some y) : minE ((x :: r).take (i + 2)) = if ahead y (minE ((x :: r).take (i + 1))) = true then y else minE ((x :: r).take (i + 1)) := by
  have hr : r[i]? = some y := by simpa using h
  simp only [List.take_succ_cons, minE]
  have : r.take (i + 1) = r.take i ++ [y] := by rw [List.take_add_one, hr]; rfl
  rw [this, List.foldl_append]
  rfl
theorem p5 (l : List Arr) (hl : l.length ≤ 64) {rate : Int} (hr : 1 ≤ rate ∧ rate ≤ 1000) {t : Int} (ht : 0 ≤ t ∧ t ≤ 1099520016384) (s : QS) (hs : QMid l s) (v : Nat) (es : List (List Tree)) (he : Holds s.wait es) (p6 : List AV × Heap) (h6 : vI p6 0 = t) :
    ∃ v' es', Holds (begP rate t s).wait es' ∧ Ev fun n => ∀ z, J13_21 n z p6 ([], hP1 rate s v es) = z ([], hP rate (begP rate t s) v' es') := by
  have hwl := hs.wl
  cases hb : s.busy with
  | true =>
    have : begP rate t s = s := by unfold begP; rw [if_pos (.inl hb)]
    rw [this]
    refine ⟨v, es, he, Ev.of fun n z => ?_⟩
    simp only [J13_21, J13_20, J13_19, hP, hP1, bxS, vI_mk, vB_mk, vS_mk, vL_mk, sVer_mk, sOff_mk, sLen_mk, oVer_mk, oEs_mk, cI_mk, cB_mk, cS_mk, cL_mk, cVer_mk, cOff_mk, cLen_mk, gI_zero, gI_succ, gB_zero, gB_succ, gS_zero, gS_succ, gL_zero, gL_succ, okI_zero, okI_succ, okB_zero, okB_succ, okS_zero, okS_succ, okL_zero, okL_succ, isIntT_int, isBoolT_bool, isStrT_str, isSlT_sl, intOf_int, boolOf_bool, strOf_str, slOf_sl, treeOf_t, srVer_sref, srOff_sref, srLen_sref, ver_row, esOf_row, cellOf_box, aI_mk, aB_mk, aS_mk, aL_mk, aggOf_agg, join_eq, List.getD_cons_zero, List.getD_cons_succ, decide_true, decide_false, cnd_true, cnd_false, true_and, and_true, false_and, and_false, Option.bind_some, Option.bind_none, List.length_cons, List.length_nil, List.length_map, List.getElem?_map, Option.map_some, Option.map_none, Int.toNat_natCast, reduceCtorEq, eq_self, if_true, if_false, Nat.zero_add, Nat.reduceAdd, Nat.reduceEqDiff, Int.natCast_nonneg, List.drop_zero, or_true, true_or, or_false, false_or, Bool.not_true, Bool.not_false, Bool.false_eq_true, decide_eq_true_eq, ge_iff_le, gt_iff_lt, hb]
  | false =>
    cases hw : s.wait with
    | nil =>
      have : begP rate t s = s := by unfold begP; rw [if_pos (.inr hw)]
      rw [this]
      refine ⟨v, es, by rw [hw] at he ⊢; exact he, Ev.of fun n z => ?_⟩
      simp only [J13_21, J13_20, J13_19, hP, hP1, bxS, vI_mk, vB_mk, vS_mk, vL_mk, sVer_mk, sOff_mk, sLen_mk, oVer_mk, oEs_mk, cI_mk, cB_mk, cS_mk, cL_mk, cVer_mk, cOff_mk, cLen_mk, gI_zero, gI_succ, gB_zero, gB_succ, gS_zero, gS_succ, gL_zero, gL_succ, okI_zero, okI_succ, okB_zero, okB_succ, okS_zero, okS_succ, okL_zero, okL_succ, isIntT_int, isBoolT_bool, isStrT_str, isSlT_sl, intOf_int, boolOf_bool, strOf_str, slOf_sl, treeOf_t, srVer_sref, srOff_sref, srLen_sref, ver_row, esOf_row, cellOf_box, aI_mk, aB_mk, aS_mk, aL_mk, aggOf_agg, join_eq, List.getD_cons_zero, List.getD_cons_succ, decide_true, decide_false, cnd_true, cnd_false, true_and, and_true, false_and, and_false, Option.bind_some, Option.bind_none, List.length_cons, List.length_nil, List.length_map, List.getElem?_map, Option.map_some, Option.map_none, Int.toNat_natCast, reduceCtorEq, eq_self, if_true, if_false, Nat.zero_add, Nat.reduceAdd, Nat.reduceEqDiff, Int.natCast_nonneg, List.drop_zero, or_true, true_or, or_false, false_or, Bool.not_true, Bool.not_false, Bool.false_eq_true, decide_eq_true_eq, ge_iff_le, gt_iff_lt, hb, hw, Int.natCast_zero, Int.lt_irrefl]
    | cons x r =>
      have hne : s.wait ≠ [] := by rw [hw]; simp
      have hbeg : begP rate t s = { s with now := minE s.wait, wait := removeQ s.wait (minE s.wait).ticket, busy := true, fin := t + durQ rate (minE s.wait) } := by unfold begP; rw [if_neg (by simp [hb, hne])]
      rw [hbeg]
      refine ⟨v + 1, (removeQ s.wait (minE s.wait).ticket).map Entry.enc, Holds.self _, ?_⟩
      have hm : ValidE (minE s.wait) := hs.wv _ (minE_in hne)
      obtain ⟨d1, d2, d3⟩ := dur_bd hr hm
      have hsz := hm
      unfold ValidE at hsz
      have w1 : w64 ((minE s.wait).size + rate) = (minE s.wait).size + rate := w64_id (by omega) (by omega)
      have w2 : w64 ((minE s.wait).size + rate - 1) = (minE s.wait).size + rate - 1 := w64_id (by omega) (by omega)
      have w3 : w64 (durQ rate (minE s.wait)) = durQ rate (minE s.wait) := w64_id (by omega) (by omega)
      have w4 : w64 (t + durQ rate (minE s.wait)) = t + durQ rate (minE s.wait) := w64_id (by omega) (by omega)
      have hlen : s.wait.length = r.length + 1 := by rw [hw]; rfl
      have hx0 : s.wait[0]? = some x := by rw [hw]; rfl
      have g0 := he.get hx0
      have htk := he.take
      have key := loop_overZ (R := List Tree) (Z := List AV × Heap → Option (List Tree)) (B := fun n z p again => L13_17 n ([.t (.bool true)], hP1 rate s v es) z p again) (r := ())
        (s := (([.t (tI 1)], hP1 rate s v es ++ [.box [.t (tI 0), .t (tI 0), .t (tI 0), .t (tI 0)], bxE x]) : List AV × Heap)) r
        (fun i (_ : Unit) => (([.t (tI ((i + 1 : Nat) : Int))], hP1 rate s v es ++ [.box [.t (tI 0), .t (tI 0), .t (tI 0), .t (tI 0)], bxE (minE (s.wait.take (i + 1)))]) : List AV × Heap)) (fun _ _ _ => .next ()) (fun _ => ())
        (fun z _ => z ([.t (tI (minE s.wait).ticket), .t (tI (minE s.wait).prio), .t (tI (minE s.wait).exp), .t (tI (minE s.wait).size)], hP1 rate s v es)) (fun _ _ => True) () (by rw [hw]; rfl) trivial (runL_fold (fun _ _ => ()) (fun _ => ()) 0 _ ())
        (fun i u y hy hI => ?_) (fun _ _ _ _ _ _ _ => trivial) (fun u hI => Ev.of fun n z again => ?_)
      · refine (key.and (s1000029 s.wait (minE s.wait).ticket (by omega))).mono fun n h z => ?_
        obtain ⟨k1, k2⟩ := h
        simp only [hP1, bxS, bxE, hb, List.cons_append, List.nil_append] at k1
        simp only [Entry.enc] at g0
        simp only [J13_21, J13_20, J13_19, J13_18, hP, hP1, bxS, vI_mk, vB_mk, vS_mk, vL_mk, sVer_mk, sOff_mk, sLen_mk, oVer_mk, oEs_mk, cI_mk, cB_mk, cS_mk, cL_mk, cVer_mk, cOff_mk, cLen_mk, gI_zero, gI_succ, gB_zero, gB_succ, gS_zero, gS_succ, gL_zero, gL_succ, okI_zero, okI_succ, okB_zero, okB_succ, okS_zero, okS_succ, okL_zero, okL_succ, isIntT_int, isBoolT_bool, isStrT_str, isSlT_sl, intOf_int, boolOf_bool, strOf_str, slOf_sl, treeOf_t, srVer_sref, srOff_sref, srLen_sref, ver_row, esOf_row, cellOf_box, aI_mk, aB_mk, aS_mk, aL_mk, aggOf_agg, join_eq, List.getD_cons_zero, List.getD_cons_succ, decide_true, decide_false, cnd_true, cnd_false, true_and, and_true, false_and, and_false, Option.bind_some, Option.bind_none, List.length_cons, List.length_nil, List.length_map, List.getElem?_map, Option.map_some, Option.map_none, Int.toNat_natCast, reduceCtorEq, eq_self, if_true, if_false, Nat.zero_add, Nat.reduceAdd, Nat.reduceEqDiff, Int.natCast_nonneg, List.drop_zero, or_true, true_or, or_false, false_or, Bool.not_true, Bool.not_false, Bool.false_eq_true, decide_eq_true_eq, ge_iff_le, gt_iff_lt, hb, (show (0 : Int) < (s.wait.length : Int) by omega), (show ¬ (s.wait.length : Int) < 1 by omega), g0, Int.le_refl, k1, htk, k2, (show ¬ rate = 0 by omega), w1, w2, d3, w3, w4, h6]
      · have hi := lt_of_some hy
        have hy2 : s.wait[i + 1]? = some y := by rw [hw]; simpa using hy
        have g := he.get hy2
        have hmf := min_fold x r i y (by simpa using hy)
        rw [← hw] at hmf
        refine (s46 y (minE (s.wait.take (i + 1)))).mono fun n h z again => ?_
        simp only [Entry.enc, List.cons_append, List.nil_append] at h g
        have hc := cmpE_neg y (minE (s.wait.take (i + 1)))
        simp only [L13_17, J13_16, hP1, bxS, bxE, vI_mk, vB_mk, vS_mk, vL_mk, sVer_mk, sOff_mk, sLen_mk, oVer_mk, oEs_mk, cI_mk, cB_mk, cS_mk, cL_mk, cVer_mk, cOff_mk, cLen_mk, gI_zero, gI_succ, gB_zero, gB_succ, gS_zero, gS_succ, gL_zero, gL_succ, okI_zero, okI_succ, okB_zero, okB_succ, okS_zero, okS_succ, okL_zero, okL_succ, isIntT_int, isBoolT_bool, isStrT_str, isSlT_sl, intOf_int, boolOf_bool, strOf_str, slOf_sl, treeOf_t, srVer_sref, srOff_sref, srLen_sref, ver_row, esOf_row, cellOf_box, aI_mk, aB_mk, aS_mk, aL_mk, aggOf_agg, join_eq, List.getD_cons_zero, List.getD_cons_succ, decide_true, decide_false, cnd_true, cnd_false, true_and, and_true, false_and, and_false, Option.bind_some, Option.bind_none, List.length_cons, List.length_nil, List.length_map, List.getElem?_map, Option.map_some, Option.map_none, Int.toNat_natCast, reduceCtorEq, eq_self, if_true, if_false, Nat.zero_add, Nat.reduceAdd, Nat.reduceEqDiff, Int.natCast_nonneg, List.drop_zero, or_true, true_or, or_false, false_or, Bool.not_true, Bool.not_false, Bool.false_eq_true, decide_eq_true_eq, ge_iff_le, gt_iff_lt, List.cons_append, List.nil_append, (show ((i + 1 : Nat) : Int) < (s.wait.length : Int) by omega), g, h, w64_succ (show i + 1 < 4611686018427387904 by omega), Rd.go_next, hmf]
        cases ha : ahead y (minE (s.wait.take (i + 1))) with
        | true =>
          have := hc.2 ha
          simp only [this, vI_mk, vB_mk, vS_mk, vL_mk, sVer_mk, sOff_mk, sLen_mk, oVer_mk, oEs_mk, cI_mk, cB_mk, cS_mk, cL_mk, cVer_mk, cOff_mk, cLen_mk, gI_zero, gI_succ, gB_zero, gB_succ, gS_zero, gS_succ, gL_zero, gL_succ, okI_zero, okI_succ, okB_zero, okB_succ, okS_zero, okS_succ, okL_zero, okL_succ, isIntT_int, isBoolT_bool, isStrT_str, isSlT_sl, intOf_int, boolOf_bool, strOf_str, slOf_sl, treeOf_t, srVer_sref, srOff_sref, srLen_sref, ver_row, esOf_row, cellOf_box, aI_mk, aB_mk, aS_mk, aL_mk, aggOf_agg, join_eq, List.getD_cons_zero, List.getD_cons_succ, decide_true, decide_false, cnd_true, cnd_false, true_and, and_true, false_and, and_false, Option.bind_some, Option.bind_none, List.length_cons, List.length_nil, List.length_map, List.getElem?_map, Option.map_some, Option.map_none, Int.toNat_natCast, reduceCtorEq, eq_self, if_true, if_false, Nat.zero_add, Nat.reduceAdd, Nat.reduceEqDiff, Int.natCast_nonneg, List.drop_zero, or_true, true_or, or_false, false_or, Bool.not_true, Bool.not_false, Bool.false_eq_true, decide_eq_true_eq, ge_iff_le, gt_iff_lt]
        | false =>
          have : ¬ cmpE y (minE (s.wait.take (i + 1))) < 0 := fun hh => by rw [hc.1 hh] at ha; cases ha
          simp only [this, vI_mk, vB_mk, vS_mk, vL_mk, sVer_mk, sOff_mk, sLen_mk, oVer_mk, oEs_mk, cI_mk, cB_mk, cS_mk, cL_mk, cVer_mk, cOff_mk, cLen_mk, gI_zero, gI_succ, gB_zero, gB_succ, gS_zero, gS_succ, gL_zero, gL_succ, okI_zero, okI_succ, okB_zero, okB_succ, okS_zero, okS_succ, okL_zero, okL_succ, isIntT_int, isBoolT_bool, isStrT_str, isSlT_sl, intOf_int, boolOf_bool, strOf_str, slOf_sl, treeOf_t, srVer_sref, srOff_sref, srLen_sref, ver_row, esOf_row, cellOf_box, aI_mk, aB_mk, aS_mk, aL_mk, aggOf_agg, join_eq, List.getD_cons_zero, List.getD_cons_succ, decide_true, decide_false, cnd_true, cnd_false, true_and, and_true, false_and, and_false, Option.bind_some, Option.bind_none, List.length_cons, List.length_nil, List.length_map, List.getElem?_map, Option.map_some, Option.map_none, Int.toNat_natCast, reduceCtorEq, eq_self, if_true, if_false, Nat.zero_add, Nat.reduceAdd, Nat.reduceEqDiff, Int.natCast_nonneg, List.drop_zero, or_true, true_or, or_false, false_or, Bool.not_true, Bool.not_false, Bool.false_eq_true, decide_eq_true_eq, ge_iff_le, gt_iff_lt]
      · have e1 : s.wait.take (r.length + 1) = s.wait := List.take_of_length_le (by omega)
        rw [e1]
        simp only [L13_17, hP1, bxS, bxE, vI_mk, vB_mk, vS_mk, vL_mk, sVer_mk, sOff_mk, sLen_mk, oVer_mk, oEs_mk, cI_mk, cB_mk, cS_mk, cL_mk, cVer_mk, cOff_mk, cLen_mk, gI_zero, gI_succ, gB_zero, gB_succ, gS_zero, gS_succ, gL_zero, gL_succ, okI_zero, okI_succ, okB_zero, okB_succ, okS_zero, okS_succ, okL_zero, okL_succ, isIntT_int, isBoolT_bool, isStrT_str, isSlT_sl, intOf_int, boolOf_bool, strOf_str, slOf_sl, treeOf_t, srVer_sref, srOff_sref, srLen_sref, ver_row, esOf_row, cellOf_box, aI_mk, aB_mk, aS_mk, aL_mk, aggOf_agg, join_eq, List.getD_cons_zero, List.getD_cons_succ, decide_true, decide_false, cnd_true, cnd_false, true_and, and_true, false_and, and_false, Option.bind_some, Option.bind_none, List.length_cons, List.length_nil, List.length_map, List.getElem?_map, Option.map_some, Option.map_none, Int.toNat_natCast, reduceCtorEq, eq_self, if_true, if_false, Nat.zero_add, Nat.reduceAdd, Nat.reduceEqDiff, Int.natCast_nonneg, List.drop_zero, or_true, true_or, or_false, false_or, Bool.not_true, Bool.not_false, Bool.false_eq_true, decide_eq_true_eq, ge_iff_le, gt_iff_lt, List.cons_append, List.nil_append, hlen, Int.lt_irrefl]
end Ab

set_option linter.unusedVariables false
set_option linter.unusedSimpArgs false
set_option maxHeartbeats 1000000
namespace Ab
open Go


def zE : List Tree := [tI 0, tI 0, tI 0, tI 0]
theorem rowFin {es : List Entry} {ex : List (List Tree)} {i L : Nat} (h : es.length = L) (hi : i ≤ L) : rowSet (es.map Entry.enc ++ ex) i (List.replicate (L - i) zE) = (es.take i).map Entry.enc ++ (List.replicate (L - i) zE ++ ex) := by
  unfold rowSet
  rw [List.length_replicate, show i + (L - i) = L by omega, List.take_append_of_le_length (by simp; omega), List.drop_append, List.drop_eq_nil_of_le (by simp; omega), List.length_map, h, Nat.sub_self, List.drop_zero, List.nil_append, List.map_take, List.append_assoc]
theorem fresh_eq (l : List Entry) (t : Int) : freshQ l t = l.filter fun x => !decide (x.exp ≤ t) := by
  unfold freshQ
  congr 1
  funext x
  have : x.exp > t ↔ ¬ x.exp ≤ t := by omega
  rw [decide_eq_decide.2 this, decide_not]
/-- What expires behind an interruption. -/
theorem x2 {rate t : Int} (s : QS) (v : Nat) (es : List (List Tree)) (hl : s.wait.length ≤ 64) (p6 : List AV × Heap) (h6 : vI p6 0 = t) :
    ∃ es', Holds (freshQ (s.wait ++ [s.now]) t) es' ∧ Ev fun n => ∀ z, loopIter (fun p again => L13_11 n ([.t (.bool true)], hP1 rate s v es) p6 (fun q => J13_14 n z ([.t (.bool true)], hP1 rate s v es) p6 q) p again) n ([.t (tI 0)], hP1 rate { s with busy := false, wait := s.wait ++ [s.now] } (v + 1) ((s.wait ++ [s.now]).map Entry.enc))
      = z ([], hP1 rate { s with busy := false, wait := freshQ (s.wait ++ [s.now]) t } (v + 1) es') := by
  have hWl : (s.wait ++ [s.now]).length = s.wait.length + 1 := by simp
  have k1 := loop_overZ (R := List Tree) (Z := List AV × Heap → Option (List Tree)) (B := fun n z p again => L13_11 n ([.t (.bool true)], hP1 rate s v es) p6 z p again) (s := (([.t (tI 0)], hP1 rate { s with busy := false, wait := s.wait ++ [s.now] } (v + 1) ((s.wait ++ [s.now]).map Entry.enc)) : List AV × Heap)) (s.wait ++ [s.now])
    (fun i (_ : Unit) => (([.t (tI i)], hP1 rate { s with busy := false, wait := s.wait ++ [s.now] } (v + 1) ((s.wait ++ [s.now]).map Entry.enc)) : List AV × Heap))
    (fun i _ x => if decide (x.exp ≤ t) = true then .done (i : Int) else .next ()) (fun _ => -1) (fun z (q : Int) => z ([.t (tI q)], hP1 rate { s with busy := false, wait := s.wait ++ [s.now] } (v + 1) ((s.wait ++ [s.now]).map Entry.enc))) (fun _ _ => True) () rfl trivial (find_run0 _ _)
    (fun i u x hx hI => Ev.of fun n z again => ?_) (fun _ _ _ _ _ _ _ => trivial) (fun u hI => Ev.of fun n z again => ?_)
  · rw [fresh_eq]
    generalize s.wait ++ [s.now] = W at hWl k1 ⊢
    rcases idx_cases (fun x : Entry => decide (x.exp ≤ t)) W with ⟨hi, hn⟩ | ⟨i, x, hi, hx, hp, hb⟩
    · rw [hi] at k1
      have e2 : W.filter (fun x => !decide (x.exp ≤ t)) = W := filter_none fun j y _ hy => hn y (List.mem_of_getElem? hy)
      rw [e2]
      refine ⟨W.map Entry.enc, Holds.self _, k1.mono fun n h z => ?_⟩
      rw [h]
      simp only [J13_14, hP1, bxS, vI_mk, vB_mk, vS_mk, vL_mk, sVer_mk, sOff_mk, sLen_mk, oVer_mk, oEs_mk, cI_mk, cB_mk, cS_mk, cL_mk, cVer_mk, cOff_mk, cLen_mk, gI_zero, gI_succ, gB_zero, gB_succ, gS_zero, gS_succ, gL_zero, gL_succ, okI_zero, okI_succ, okB_zero, okB_succ, okS_zero, okS_succ, okL_zero, okL_succ, isIntT_int, isBoolT_bool, isStrT_str, isSlT_sl, intOf_int, boolOf_bool, strOf_str, slOf_sl, treeOf_t, srVer_sref, srOff_sref, srLen_sref, ver_row, esOf_row, cellOf_box, aI_mk, aB_mk, aS_mk, aL_mk, aggOf_agg, join_eq, List.getD_cons_zero, List.getD_cons_succ, decide_true, decide_false, cnd_true, cnd_false, true_and, and_true, false_and, and_false, Option.bind_some, Option.bind_none, List.length_cons, List.length_nil, List.length_map, List.getElem?_map, Option.map_some, Option.map_none, Int.toNat_natCast, reduceCtorEq, eq_self, if_true, if_false, Nat.zero_add, Nat.reduceAdd, Nat.reduceEqDiff, Int.natCast_nonneg, List.drop_zero, or_true, true_or, or_false, false_or, Bool.not_true, Bool.not_false, Bool.false_eq_true, decide_eq_true_eq, ge_iff_le, gt_iff_lt, beq_self_eq_true, hWl]
    · rw [hi] at k1
      have hil := lt_of_some hx
      refine ⟨(W.filter (fun x => !decide (x.exp ≤ t))).map Entry.enc ++ List.replicate (W.length - (W.filter (fun x => !decide (x.exp ≤ t))).length) zE, ⟨_, rfl⟩, ?_⟩
      have k2 := del_overZ (R := List Tree) (Z := List AV × Heap → Option (List Tree)) (B := fun n z p again => L13_13 n ([.t (.bool true)], hP1 rate s v es) p6 z p again)
        (fun z (r : List Entry) => z ([], hP1 rate { s with busy := false, wait := r } (v + 1) (r.map Entry.enc ++ List.replicate (W.length - r.length) zE))) (fun x => decide (x.exp ≤ t)) W
        (fun (d : DS Entry) => (([.t (tI d.i), .t (tI d.j)], hP1 rate { s with busy := false, wait := W } (v + 1) (d.es.map Entry.enc)) : List AV × Heap)) ⟨i, i + 1, W⟩ rfl (DInv.start hx hp hb) (fun d hD => Ev.of fun n z again => ?_)
      · refine (k1.and k2).mono fun n h z => ?_
        rw [h.1]
        have h2 := h.2 z
        simp only [hP1, bxS] at h2
        simp only [J13_14, hP1, bxS, vI_mk, vB_mk, vS_mk, vL_mk, sVer_mk, sOff_mk, sLen_mk, oVer_mk, oEs_mk, cI_mk, cB_mk, cS_mk, cL_mk, cVer_mk, cOff_mk, cLen_mk, gI_zero, gI_succ, gB_zero, gB_succ, gS_zero, gS_succ, gL_zero, gL_succ, okI_zero, okI_succ, okB_zero, okB_succ, okS_zero, okS_succ, okL_zero, okL_succ, isIntT_int, isBoolT_bool, isStrT_str, isSlT_sl, intOf_int, boolOf_bool, strOf_str, slOf_sl, treeOf_t, srVer_sref, srOff_sref, srLen_sref, ver_row, esOf_row, cellOf_box, aI_mk, aB_mk, aS_mk, aL_mk, aggOf_agg, join_eq, List.getD_cons_zero, List.getD_cons_succ, decide_true, decide_false, cnd_true, cnd_false, true_and, and_true, false_and, and_false, Option.bind_some, Option.bind_none, List.length_cons, List.length_nil, List.length_map, List.getElem?_map, Option.map_some, Option.map_none, Int.toNat_natCast, reduceCtorEq, eq_self, if_true, if_false, Nat.zero_add, Nat.reduceAdd, Nat.reduceEqDiff, Int.natCast_nonneg, List.drop_zero, or_true, true_or, or_false, false_or, Bool.not_true, Bool.not_false, Bool.false_eq_true, decide_eq_true_eq, ge_iff_le, gt_iff_lt, (show (((i : Nat) : Int) == -1) = false by simp), w64_succ (show i < 4611686018427387904 by omega)]
        exact h2
      · have hat := hD.at
        obtain ⟨i', j, es1⟩ := d
        obtain ⟨d1, d2, d3, d4, d5⟩ := hD
        simp only at d1 d2 d3 d4 d5 hat
        unfold dstep
        simp only
        cases hy : W[j]? with
        | none =>
          have hj : W.length ≤ j := by simpa using hy
          have hrf := rowFin (ex := []) (i := i') d3 (by omega)
          simp only [List.append_nil] at hrf
          have htl : (es1.take i').length = i' := by simp; omega
          have hlen2 : (rowSet (es1.map Entry.enc) i' (List.replicate (W.length - i') zE)).length = W.length := by rw [hrf]; simp; omega
          simp only [zE] at hrf hlen2
          simp only [L13_13, hP1, bxS, vI_mk, vB_mk, vS_mk, vL_mk, sVer_mk, sOff_mk, sLen_mk, oVer_mk, oEs_mk, cI_mk, cB_mk, cS_mk, cL_mk, cVer_mk, cOff_mk, cLen_mk, gI_zero, gI_succ, gB_zero, gB_succ, gS_zero, gS_succ, gL_zero, gL_succ, okI_zero, okI_succ, okB_zero, okB_succ, okS_zero, okS_succ, okL_zero, okL_succ, isIntT_int, isBoolT_bool, isStrT_str, isSlT_sl, intOf_int, boolOf_bool, strOf_str, slOf_sl, treeOf_t, srVer_sref, srOff_sref, srLen_sref, ver_row, esOf_row, cellOf_box, aI_mk, aB_mk, aS_mk, aL_mk, aggOf_agg, join_eq, List.getD_cons_zero, List.getD_cons_succ, decide_true, decide_false, cnd_true, cnd_false, true_and, and_true, false_and, and_false, Option.bind_some, Option.bind_none, List.length_cons, List.length_nil, List.length_map, List.getElem?_map, Option.map_some, Option.map_none, Int.toNat_natCast, reduceCtorEq, eq_self, if_true, if_false, Nat.zero_add, Nat.reduceAdd, Nat.reduceEqDiff, Int.natCast_nonneg, List.drop_zero, or_true, true_or, or_false, false_or, Bool.not_true, Bool.not_false, Bool.false_eq_true, decide_eq_true_eq, ge_iff_le, gt_iff_lt, ← hWl, (show ¬ (j : Int) < (W.length : Int) by omega), d3, (show (i' : Int) ≤ (W.length : Int) by omega), (show i' < W.length by omega), hlen2, (show 0 < W.length by omega), Rd.go_done, htl, zE]
          rw [hrf]
        | some y =>
          have hj := lt_of_some hy
          have hi2 : es1[i']? = some es1[i'] := List.getElem?_eq_getElem (by omega)
          have hset : List.set (es1.map Entry.enc) i' y.enc = (es1.set i' y).map Entry.enc := by rw [← List.map_set]
          simp only [Entry.enc] at hset
          simp only [L13_13, J13_12, hP1, bxS, vI_mk, vB_mk, vS_mk, vL_mk, sVer_mk, sOff_mk, sLen_mk, oVer_mk, oEs_mk, cI_mk, cB_mk, cS_mk, cL_mk, cVer_mk, cOff_mk, cLen_mk, gI_zero, gI_succ, gB_zero, gB_succ, gS_zero, gS_succ, gL_zero, gL_succ, okI_zero, okI_succ, okB_zero, okB_succ, okS_zero, okS_succ, okL_zero, okL_succ, isIntT_int, isBoolT_bool, isStrT_str, isSlT_sl, intOf_int, boolOf_bool, strOf_str, slOf_sl, treeOf_t, srVer_sref, srOff_sref, srLen_sref, ver_row, esOf_row, cellOf_box, aI_mk, aB_mk, aS_mk, aL_mk, aggOf_agg, join_eq, List.getD_cons_zero, List.getD_cons_succ, decide_true, decide_false, cnd_true, cnd_false, true_and, and_true, false_and, and_false, Option.bind_some, Option.bind_none, List.length_cons, List.length_nil, List.length_map, List.getElem?_map, Option.map_some, Option.map_none, Int.toNat_natCast, reduceCtorEq, eq_self, if_true, if_false, Nat.zero_add, Nat.reduceAdd, Nat.reduceEqDiff, Int.natCast_nonneg, List.drop_zero, or_true, true_or, or_false, false_or, Bool.not_true, Bool.not_false, Bool.false_eq_true, decide_eq_true_eq, ge_iff_le, gt_iff_lt, ← hWl, (show (j : Int) < (W.length : Int) by omega), hat, hy, hi2, Entry.enc, h6, (show (i' : Int) < (W.length : Int) by omega), Nat.le_refl, w64_succ (show i' < 4611686018427387904 by omega), w64_succ (show j < 4611686018427387904 by omega), List.drop_succ_cons, List.append_nil, List.drop_nil, List.cons_append, List.nil_append]
          by_cases hpy : y.exp ≤ t
          · simp only [hpy, vI_mk, vB_mk, vS_mk, vL_mk, sVer_mk, sOff_mk, sLen_mk, oVer_mk, oEs_mk, cI_mk, cB_mk, cS_mk, cL_mk, cVer_mk, cOff_mk, cLen_mk, gI_zero, gI_succ, gB_zero, gB_succ, gS_zero, gS_succ, gL_zero, gL_succ, okI_zero, okI_succ, okB_zero, okB_succ, okS_zero, okS_succ, okL_zero, okL_succ, isIntT_int, isBoolT_bool, isStrT_str, isSlT_sl, intOf_int, boolOf_bool, strOf_str, slOf_sl, treeOf_t, srVer_sref, srOff_sref, srLen_sref, ver_row, esOf_row, cellOf_box, aI_mk, aB_mk, aS_mk, aL_mk, aggOf_agg, join_eq, List.getD_cons_zero, List.getD_cons_succ, decide_true, decide_false, cnd_true, cnd_false, true_and, and_true, false_and, and_false, Option.bind_some, Option.bind_none, List.length_cons, List.length_nil, List.length_map, List.getElem?_map, Option.map_some, Option.map_none, Int.toNat_natCast, reduceCtorEq, eq_self, if_true, if_false, Nat.zero_add, Nat.reduceAdd, Nat.reduceEqDiff, Int.natCast_nonneg, List.drop_zero, or_true, true_or, or_false, false_or, Bool.not_true, Bool.not_false, Bool.false_eq_true, decide_eq_true_eq, ge_iff_le, gt_iff_lt, Rd.go_next]
          · simp only [hpy, vI_mk, vB_mk, vS_mk, vL_mk, sVer_mk, sOff_mk, sLen_mk, oVer_mk, oEs_mk, cI_mk, cB_mk, cS_mk, cL_mk, cVer_mk, cOff_mk, cLen_mk, gI_zero, gI_succ, gB_zero, gB_succ, gS_zero, gS_succ, gL_zero, gL_succ, okI_zero, okI_succ, okB_zero, okB_succ, okS_zero, okS_succ, okL_zero, okL_succ, isIntT_int, isBoolT_bool, isStrT_str, isSlT_sl, intOf_int, boolOf_bool, strOf_str, slOf_sl, treeOf_t, srVer_sref, srOff_sref, srLen_sref, ver_row, esOf_row, cellOf_box, aI_mk, aB_mk, aS_mk, aL_mk, aggOf_agg, join_eq, List.getD_cons_zero, List.getD_cons_succ, decide_true, decide_false, cnd_true, cnd_false, true_and, and_true, false_and, and_false, Option.bind_some, Option.bind_none, List.length_cons, List.length_nil, List.length_map, List.getElem?_map, Option.map_some, Option.map_none, Int.toNat_natCast, reduceCtorEq, eq_self, if_true, if_false, Nat.zero_add, Nat.reduceAdd, Nat.reduceEqDiff, Int.natCast_nonneg, List.drop_zero, or_true, true_or, or_false, false_or, Bool.not_true, Bool.not_false, Bool.false_eq_true, decide_eq_true_eq, ge_iff_le, gt_iff_lt, Rd.go_next, hset]
  · have hi := lt_of_some hx
    have hx2 : ((s.wait ++ [s.now]).map Entry.enc)[i]? = some x.enc := by rw [List.getElem?_map, hx]; rfl
    simp only [Entry.enc] at hx2
    have hi3 : (i : Int) < ((s.wait.length + 1 : Nat) : Int) := by omega
    simp only [L13_11, hP1, bxS, vI_mk, vB_mk, vS_mk, vL_mk, sVer_mk, sOff_mk, sLen_mk, oVer_mk, oEs_mk, cI_mk, cB_mk, cS_mk, cL_mk, cVer_mk, cOff_mk, cLen_mk, gI_zero, gI_succ, gB_zero, gB_succ, gS_zero, gS_succ, gL_zero, gL_succ, okI_zero, okI_succ, okB_zero, okB_succ, okS_zero, okS_succ, okL_zero, okL_succ, isIntT_int, isBoolT_bool, isStrT_str, isSlT_sl, intOf_int, boolOf_bool, strOf_str, slOf_sl, treeOf_t, srVer_sref, srOff_sref, srLen_sref, ver_row, esOf_row, cellOf_box, aI_mk, aB_mk, aS_mk, aL_mk, aggOf_agg, join_eq, List.getD_cons_zero, List.getD_cons_succ, decide_true, decide_false, cnd_true, cnd_false, true_and, and_true, false_and, and_false, Option.bind_some, Option.bind_none, List.length_cons, List.length_nil, List.length_map, List.getElem?_map, Option.map_some, Option.map_none, Int.toNat_natCast, reduceCtorEq, eq_self, if_true, if_false, Nat.zero_add, Nat.reduceAdd, Nat.reduceEqDiff, Int.natCast_nonneg, List.drop_zero, or_true, true_or, or_false, false_or, Bool.not_true, Bool.not_false, Bool.false_eq_true, decide_eq_true_eq, ge_iff_le, gt_iff_lt, hi3, hx, hx2, Entry.enc, h6, w64_succ (show i < 4611686018427387904 by omega)]
    by_cases h : x.exp ≤ t
    · simp only [h, vI_mk, vB_mk, vS_mk, vL_mk, sVer_mk, sOff_mk, sLen_mk, oVer_mk, oEs_mk, cI_mk, cB_mk, cS_mk, cL_mk, cVer_mk, cOff_mk, cLen_mk, gI_zero, gI_succ, gB_zero, gB_succ, gS_zero, gS_succ, gL_zero, gL_succ, okI_zero, okI_succ, okB_zero, okB_succ, okS_zero, okS_succ, okL_zero, okL_succ, isIntT_int, isBoolT_bool, isStrT_str, isSlT_sl, intOf_int, boolOf_bool, strOf_str, slOf_sl, treeOf_t, srVer_sref, srOff_sref, srLen_sref, ver_row, esOf_row, cellOf_box, aI_mk, aB_mk, aS_mk, aL_mk, aggOf_agg, join_eq, List.getD_cons_zero, List.getD_cons_succ, decide_true, decide_false, cnd_true, cnd_false, true_and, and_true, false_and, and_false, Option.bind_some, Option.bind_none, List.length_cons, List.length_nil, List.length_map, List.getElem?_map, Option.map_some, Option.map_none, Int.toNat_natCast, reduceCtorEq, eq_self, if_true, if_false, Nat.zero_add, Nat.reduceAdd, Nat.reduceEqDiff, Int.natCast_nonneg, List.drop_zero, or_true, true_or, or_false, false_or, Bool.not_true, Bool.not_false, Bool.false_eq_true, decide_eq_true_eq, ge_iff_le, gt_iff_lt, Rd.go_done]
    · simp only [h, vI_mk, vB_mk, vS_mk, vL_mk, sVer_mk, sOff_mk, sLen_mk, oVer_mk, oEs_mk, cI_mk, cB_mk, cS_mk, cL_mk, cVer_mk, cOff_mk, cLen_mk, gI_zero, gI_succ, gB_zero, gB_succ, gS_zero, gS_succ, gL_zero, gL_succ, okI_zero, okI_succ, okB_zero, okB_succ, okS_zero, okS_succ, okL_zero, okL_succ, isIntT_int, isBoolT_bool, isStrT_str, isSlT_sl, intOf_int, boolOf_bool, strOf_str, slOf_sl, treeOf_t, srVer_sref, srOff_sref, srLen_sref, ver_row, esOf_row, cellOf_box, aI_mk, aB_mk, aS_mk, aL_mk, aggOf_agg, join_eq, List.getD_cons_zero, List.getD_cons_succ, decide_true, decide_false, cnd_true, cnd_false, true_and, and_true, false_and, and_false, Option.bind_some, Option.bind_none, List.length_cons, List.length_nil, List.length_map, List.getElem?_map, Option.map_some, Option.map_none, Int.toNat_natCast, reduceCtorEq, eq_self, if_true, if_false, Nat.zero_add, Nat.reduceAdd, Nat.reduceEqDiff, Int.natCast_nonneg, List.drop_zero, or_true, true_or, or_false, false_or, Bool.not_true, Bool.not_false, Bool.false_eq_true, decide_eq_true_eq, ge_iff_le, gt_iff_lt, Rd.go_next]
  · simp only [L13_11, hP1, bxS, vI_mk, vB_mk, vS_mk, vL_mk, sVer_mk, sOff_mk, sLen_mk, oVer_mk, oEs_mk, cI_mk, cB_mk, cS_mk, cL_mk, cVer_mk, cOff_mk, cLen_mk, gI_zero, gI_succ, gB_zero, gB_succ, gS_zero, gS_succ, gL_zero, gL_succ, okI_zero, okI_succ, okB_zero, okB_succ, okS_zero, okS_succ, okL_zero, okL_succ, isIntT_int, isBoolT_bool, isStrT_str, isSlT_sl, intOf_int, boolOf_bool, strOf_str, slOf_sl, treeOf_t, srVer_sref, srOff_sref, srLen_sref, ver_row, esOf_row, cellOf_box, aI_mk, aB_mk, aS_mk, aL_mk, aggOf_agg, join_eq, List.getD_cons_zero, List.getD_cons_succ, decide_true, decide_false, cnd_true, cnd_false, true_and, and_true, false_and, and_false, Option.bind_some, Option.bind_none, List.length_cons, List.length_nil, List.length_map, List.getElem?_map, Option.map_some, Option.map_none, Int.toNat_natCast, reduceCtorEq, eq_self, if_true, if_false, Nat.zero_add, Nat.reduceAdd, Nat.reduceEqDiff, Int.natCast_nonneg, List.drop_zero, or_true, true_or, or_false, false_or, Bool.not_true, Bool.not_false, Bool.false_eq_true, decide_eq_true_eq, ge_iff_le, gt_iff_lt, hWl, Int.lt_irrefl]
/-- Interruptions. -/
theorem p4 (l : List Arr) (hl : l.length ≤ 64) {rate : Int} (hr : 1 ≤ rate ∧ rate ≤ 1000) {t : Int} (ht : 0 ≤ t ∧ t ≤ 1099520016384) (s : QS) (hs : QMid l s) (v : Nat) (es : List (List Tree)) (he : Holds s.wait es) (p6 : List AV × Heap) (h6 : vI p6 0 = t) :
    ∃ v' es', Holds (begP rate t (preP t s)).wait es' ∧ Ev fun n => ∀ z, J13_23 n z p6 ([], hP1 rate s v es) = z ([], hP rate (begP rate t (preP t s)) v' es') := by
  have hwl := hs.wl
  cases hb : s.busy with
  | false =>
    have : preP t s = s := by unfold preP; rw [if_neg (by simp [hb])]
    rw [this]
    obtain ⟨v', es', q1, q2⟩ := p5 l hl hr ht s hs v es he p6 h6
    refine ⟨v', es', q1, q2.mono fun n h z => ?_⟩
    have h' := h z
    simp only [hP1, bxS, hb] at h'
    simp only [J13_23, J13_22, hP1, bxS, hb, vI_mk, vB_mk, vS_mk, vL_mk, sVer_mk, sOff_mk, sLen_mk, oVer_mk, oEs_mk, cI_mk, cB_mk, cS_mk, cL_mk, cVer_mk, cOff_mk, cLen_mk, gI_zero, gI_succ, gB_zero, gB_succ, gS_zero, gS_succ, gL_zero, gL_succ, okI_zero, okI_succ, okB_zero, okB_succ, okS_zero, okS_succ, okL_zero, okL_succ, isIntT_int, isBoolT_bool, isStrT_str, isSlT_sl, intOf_int, boolOf_bool, strOf_str, slOf_sl, treeOf_t, srVer_sref, srOff_sref, srLen_sref, ver_row, esOf_row, cellOf_box, aI_mk, aB_mk, aS_mk, aL_mk, aggOf_agg, join_eq, List.getD_cons_zero, List.getD_cons_succ, decide_true, decide_false, cnd_true, cnd_false, true_and, and_true, false_and, and_false, Option.bind_some, Option.bind_none, List.length_cons, List.length_nil, List.length_map, List.getElem?_map, Option.map_some, Option.map_none, Int.toNat_natCast, reduceCtorEq, eq_self, if_true, if_false, Nat.zero_add, Nat.reduceAdd, Nat.reduceEqDiff, Int.natCast_nonneg, List.drop_zero, or_true, true_or, or_false, false_or, Bool.not_true, Bool.not_false, Bool.false_eq_true, decide_eq_true_eq, ge_iff_le, gt_iff_lt]
    exact h'
  | true =>
    have k1 := loop_overZ (R := List Tree) (Z := List AV × Heap → Option (List Tree)) (B := fun n z p again => L13_8 n ([], hP1 rate s v es) z p again) (s := (([.t (tI 0)], hP1 rate s v es) : List AV × Heap)) s.wait
      (fun i (_ : Unit) => (([.t (tI i)], hP1 rate s v es) : List AV × Heap))
      (fun i _ x => if decide (pre x s.now) = true then .done (i : Int) else .next ()) (fun _ => -1) (fun z (q : Int) => z ([.t (tI q)], hP1 rate s v es)) (fun _ _ => True) () rfl trivial (find_run0 _ _)
      (fun i u x hx hI => ?_) (fun _ _ _ _ _ _ _ => trivial) (fun u hI => Ev.of fun n z again => ?_)
    · have hix := idx_nonneg (fun x : Entry => decide (pre x s.now)) s.wait
      cases ha : (s.wait.any fun x => decide (pre x s.now)) with
      | false =>
        have : preP t s = s := by unfold preP; rw [if_neg (by simp [ha])]
        rw [this]
        obtain ⟨v', es', q1, q2⟩ := p5 l hl hr ht s hs v es he p6 h6
        refine ⟨v', es', q1, (k1.and q2).mono fun n h z => ?_⟩
        have h2 := h.2 z
        have h1 := h.1
        have hn : ¬ 0 ≤ idx (fun x : Entry => decide (pre x s.now)) s.wait := fun hh => by rw [hix.1 hh] at ha; cases ha
        simp only [hP1, bxS, hb] at h1 h2
        simp only [J13_23, J13_22, J13_10, J13_9, hP1, bxS, hb, vI_mk, vB_mk, vS_mk, vL_mk, sVer_mk, sOff_mk, sLen_mk, oVer_mk, oEs_mk, cI_mk, cB_mk, cS_mk, cL_mk, cVer_mk, cOff_mk, cLen_mk, gI_zero, gI_succ, gB_zero, gB_succ, gS_zero, gS_succ, gL_zero, gL_succ, okI_zero, okI_succ, okB_zero, okB_succ, okS_zero, okS_succ, okL_zero, okL_succ, isIntT_int, isBoolT_bool, isStrT_str, isSlT_sl, intOf_int, boolOf_bool, strOf_str, slOf_sl, treeOf_t, srVer_sref, srOff_sref, srLen_sref, ver_row, esOf_row, cellOf_box, aI_mk, aB_mk, aS_mk, aL_mk, aggOf_agg, join_eq, List.getD_cons_zero, List.getD_cons_succ, decide_true, decide_false, cnd_true, cnd_false, true_and, and_true, false_and, and_false, Option.bind_some, Option.bind_none, List.length_cons, List.length_nil, List.length_map, List.getElem?_map, Option.map_some, Option.map_none, Int.toNat_natCast, reduceCtorEq, eq_self, if_true, if_false, Nat.zero_add, Nat.reduceAdd, Nat.reduceEqDiff, Int.natCast_nonneg, List.drop_zero, or_true, true_or, or_false, false_or, Bool.not_true, Bool.not_false, Bool.false_eq_true, decide_eq_true_eq, ge_iff_le, gt_iff_lt, h1, hn]
        exact h2
      | true =>
        have hpre : preP t s = { s with busy := false, wait := freshQ (s.wait ++ [s.now]) t } := by unfold preP; rw [if_pos ⟨hb, ha⟩]
        rw [hpre]
        have hmid : QMid l { s with busy := false, wait := freshQ (s.wait ++ [s.now]) t } := by
          refine ⟨hs.co, hs.out, ?_, fun x hx => ?_, fun h => by cases h⟩
          · have := fresh_len (s.wait ++ [s.now]) t
            rw [hb] at hwl
            simp only [List.length_append, List.length_cons, List.length_nil, Bool.toNat_true, Bool.toNat_false] at *
            omega
          · have := (List.mem_filter.1 hx).1
            rw [List.mem_append, List.mem_singleton] at this
            rcases this with h | rfl
            · exact hs.wv x h
            · exact hs.nv hb
        obtain ⟨es1, q1, q2⟩ := x2 (rate := rate) s v es (by omega) p6 h6
        obtain ⟨v', es', q3, q4⟩ := p5 l hl hr ht _ hmid (v + 1) es1 q1 p6 h6
        refine ⟨v', es', q3, (k1.and (q2.and q4)).mono fun n h z => ?_⟩
        obtain ⟨h1, h2, h3⟩ := h
        have hn : 0 ≤ idx (fun x : Entry => decide (pre x s.now)) s.wait := hix.2 ha
        have h3' := h3 z
        have h2' := h2 fun p63 => J13_15 n (fun p61 => J13_21 n z p6 p61) p63
        have htk := he.take
        simp only [hP1, bxS, hb] at h1 h2' h3'
        simp only [J13_23, J13_22, J13_10, J13_9, hP1, bxS, hb, vI_mk, vB_mk, vS_mk, vL_mk, sVer_mk, sOff_mk, sLen_mk, oVer_mk, oEs_mk, cI_mk, cB_mk, cS_mk, cL_mk, cVer_mk, cOff_mk, cLen_mk, gI_zero, gI_succ, gB_zero, gB_succ, gS_zero, gS_succ, gL_zero, gL_succ, okI_zero, okI_succ, okB_zero, okB_succ, okS_zero, okS_succ, okL_zero, okL_succ, isIntT_int, isBoolT_bool, isStrT_str, isSlT_sl, intOf_int, boolOf_bool, strOf_str, slOf_sl, treeOf_t, srVer_sref, srOff_sref, srLen_sref, ver_row, esOf_row, cellOf_box, aI_mk, aB_mk, aS_mk, aL_mk, aggOf_agg, join_eq, List.getD_cons_zero, List.getD_cons_succ, decide_true, decide_false, cnd_true, cnd_false, true_and, and_true, false_and, and_false, Option.bind_some, Option.bind_none, List.length_cons, List.length_nil, List.length_map, List.getElem?_map, Option.map_some, Option.map_none, Int.toNat_natCast, reduceCtorEq, eq_self, if_true, if_false, Nat.zero_add, Nat.reduceAdd, Nat.reduceEqDiff, Int.natCast_nonneg, List.drop_zero, or_true, true_or, or_false, false_or, Bool.not_true, Bool.not_false, Bool.false_eq_true, decide_eq_true_eq, ge_iff_le, gt_iff_lt, h1, hn, he.len, (show s.wait.length + 1 ≤ 1073741824 by omega), htk]
        simp only [List.map_append, List.map_cons, List.map_nil, Entry.enc, List.length_append, List.length_cons, List.length_nil, Nat.zero_add] at h2'
        refine h2'.trans ?_
        simp only [J13_15, vI_mk, vB_mk, vS_mk, vL_mk, sVer_mk, sOff_mk, sLen_mk, oVer_mk, oEs_mk, cI_mk, cB_mk, cS_mk, cL_mk, cVer_mk, cOff_mk, cLen_mk, gI_zero, gI_succ, gB_zero, gB_succ, gS_zero, gS_succ, gL_zero, gL_succ, okI_zero, okI_succ, okB_zero, okB_succ, okS_zero, okS_succ, okL_zero, okL_succ, isIntT_int, isBoolT_bool, isStrT_str, isSlT_sl, intOf_int, boolOf_bool, strOf_str, slOf_sl, treeOf_t, srVer_sref, srOff_sref, srLen_sref, ver_row, esOf_row, cellOf_box, aI_mk, aB_mk, aS_mk, aL_mk, aggOf_agg, join_eq, List.getD_cons_zero, List.getD_cons_succ, decide_true, decide_false, cnd_true, cnd_false, true_and, and_true, false_and, and_false, Option.bind_some, Option.bind_none, List.length_cons, List.length_nil, List.length_map, List.getElem?_map, Option.map_some, Option.map_none, Int.toNat_natCast, reduceCtorEq, eq_self, if_true, if_false, Nat.zero_add, Nat.reduceAdd, Nat.reduceEqDiff, Int.natCast_nonneg, List.drop_zero, or_true, true_or, or_false, false_or, Bool.not_true, Bool.not_false, Bool.false_eq_true, decide_eq_true_eq, ge_iff_le, gt_iff_lt]
        exact h3'
    · have hi := lt_of_some hx
      have g := he.get hx
      refine (s24 x s.now).mono fun n h z again => ?_
      simp only [Entry.enc, List.cons_append, List.nil_append] at h g
      simp only [L13_8, hP1, bxS, vI_mk, vB_mk, vS_mk, vL_mk, sVer_mk, sOff_mk, sLen_mk, oVer_mk, oEs_mk, cI_mk, cB_mk, cS_mk, cL_mk, cVer_mk, cOff_mk, cLen_mk, gI_zero, gI_succ, gB_zero, gB_succ, gS_zero, gS_succ, gL_zero, gL_succ, okI_zero, okI_succ, okB_zero, okB_succ, okS_zero, okS_succ, okL_zero, okL_succ, isIntT_int, isBoolT_bool, isStrT_str, isSlT_sl, intOf_int, boolOf_bool, strOf_str, slOf_sl, treeOf_t, srVer_sref, srOff_sref, srLen_sref, ver_row, esOf_row, cellOf_box, aI_mk, aB_mk, aS_mk, aL_mk, aggOf_agg, join_eq, List.getD_cons_zero, List.getD_cons_succ, decide_true, decide_false, cnd_true, cnd_false, true_and, and_true, false_and, and_false, Option.bind_some, Option.bind_none, List.length_cons, List.length_nil, List.length_map, List.getElem?_map, Option.map_some, Option.map_none, Int.toNat_natCast, reduceCtorEq, eq_self, if_true, if_false, Nat.zero_add, Nat.reduceAdd, Nat.reduceEqDiff, Int.natCast_nonneg, List.drop_zero, or_true, true_or, or_false, false_or, Bool.not_true, Bool.not_false, Bool.false_eq_true, decide_eq_true_eq, ge_iff_le, gt_iff_lt, (show (i : Int) < (s.wait.length : Int) by omega), g, h, w64_succ (show i < 4611686018427387904 by omega)]
      by_cases hpx : pre x s.now
      · have : x.prio = 2 ∧ s.now.prio < 2 := hpx
        simp only [hpx, this, vI_mk, vB_mk, vS_mk, vL_mk, sVer_mk, sOff_mk, sLen_mk, oVer_mk, oEs_mk, cI_mk, cB_mk, cS_mk, cL_mk, cVer_mk, cOff_mk, cLen_mk, gI_zero, gI_succ, gB_zero, gB_succ, gS_zero, gS_succ, gL_zero, gL_succ, okI_zero, okI_succ, okB_zero, okB_succ, okS_zero, okS_succ, okL_zero, okL_succ, isIntT_int, isBoolT_bool, isStrT_str, isSlT_sl, intOf_int, boolOf_bool, strOf_str, slOf_sl, treeOf_t, srVer_sref, srOff_sref, srLen_sref, ver_row, esOf_row, cellOf_box, aI_mk, aB_mk, aS_mk, aL_mk, aggOf_agg, join_eq, List.getD_cons_zero, List.getD_cons_succ, decide_true, decide_false, cnd_true, cnd_false, true_and, and_true, false_and, and_false, Option.bind_some, Option.bind_none, List.length_cons, List.length_nil, List.length_map, List.getElem?_map, Option.map_some, Option.map_none, Int.toNat_natCast, reduceCtorEq, eq_self, if_true, if_false, Nat.zero_add, Nat.reduceAdd, Nat.reduceEqDiff, Int.natCast_nonneg, List.drop_zero, or_true, true_or, or_false, false_or, Bool.not_true, Bool.not_false, Bool.false_eq_true, decide_eq_true_eq, ge_iff_le, gt_iff_lt, Rd.go_done, and_self]
      · have : ¬ (x.prio = 2 ∧ s.now.prio < 2) := hpx
        simp only [hpx, this, vI_mk, vB_mk, vS_mk, vL_mk, sVer_mk, sOff_mk, sLen_mk, oVer_mk, oEs_mk, cI_mk, cB_mk, cS_mk, cL_mk, cVer_mk, cOff_mk, cLen_mk, gI_zero, gI_succ, gB_zero, gB_succ, gS_zero, gS_succ, gL_zero, gL_succ, okI_zero, okI_succ, okB_zero, okB_succ, okS_zero, okS_succ, okL_zero, okL_succ, isIntT_int, isBoolT_bool, isStrT_str, isSlT_sl, intOf_int, boolOf_bool, strOf_str, slOf_sl, treeOf_t, srVer_sref, srOff_sref, srLen_sref, ver_row, esOf_row, cellOf_box, aI_mk, aB_mk, aS_mk, aL_mk, aggOf_agg, join_eq, List.getD_cons_zero, List.getD_cons_succ, decide_true, decide_false, cnd_true, cnd_false, true_and, and_true, false_and, and_false, Option.bind_some, Option.bind_none, List.length_cons, List.length_nil, List.length_map, List.getElem?_map, Option.map_some, Option.map_none, Int.toNat_natCast, reduceCtorEq, eq_self, if_true, if_false, Nat.zero_add, Nat.reduceAdd, Nat.reduceEqDiff, Int.natCast_nonneg, List.drop_zero, or_true, true_or, or_false, false_or, Bool.not_true, Bool.not_false, Bool.false_eq_true, decide_eq_true_eq, ge_iff_le, gt_iff_lt, Rd.go_next]
    · simp only [L13_8, hP1, bxS, vI_mk, vB_mk, vS_mk, vL_mk, sVer_mk, sOff_mk, sLen_mk, oVer_mk, oEs_mk, cI_mk, cB_mk, cS_mk, cL_mk, cVer_mk, cOff_mk, cLen_mk, gI_zero, gI_succ, gB_zero, gB_succ, gS_zero, gS_succ, gL_zero, gL_succ, okI_zero, okI_succ, okB_zero, okB_succ, okS_zero, okS_succ, okL_zero, okL_succ, isIntT_int, isBoolT_bool, isStrT_str, isSlT_sl, intOf_int, boolOf_bool, strOf_str, slOf_sl, treeOf_t, srVer_sref, srOff_sref, srLen_sref, ver_row, esOf_row, cellOf_box, aI_mk, aB_mk, aS_mk, aL_mk, aggOf_agg, join_eq, List.getD_cons_zero, List.getD_cons_succ, decide_true, decide_false, cnd_true, cnd_false, true_and, and_true, false_and, and_false, Option.bind_some, Option.bind_none, List.length_cons, List.length_nil, List.length_map, List.getElem?_map, Option.map_some, Option.map_none, Int.toNat_natCast, reduceCtorEq, eq_self, if_true, if_false, Nat.zero_add, Nat.reduceAdd, Nat.reduceEqDiff, Int.natCast_nonneg, List.drop_zero, or_true, true_or, or_false, false_or, Bool.not_true, Bool.not_false, Bool.false_eq_true, decide_eq_true_eq, ge_iff_le, gt_iff_lt, Int.lt_irrefl]
end Ab

set_option linter.unusedVariables false
set_option linter.unusedSimpArgs false
set_option maxHeartbeats 1000000
namespace Ab
open Go


/-- What expires, ahead of interruptions. -/
theorem x1 {rate t : Int} (s : QS) (v : Nat) (es : List (List Tree)) (he : Holds s.wait es) (hl : s.wait.length ≤ 64) (p6 p28 : List AV × Heap) (h6 : vI p6 0 = t) (hp : p28.2 = hP1 rate s v es) :
    ∃ es', Holds (freshQ s.wait t) es' ∧ Ev fun n => ∀ z, loopIter (fun p again => L13_4 n p28 p6 (fun q => J13_7 n z p28 p6 q) p again) n ([.t (tI 0)], hP1 rate s v es)
      = z ([], hP1 rate { s with wait := freshQ s.wait t } v es') := by
  have c1 : cLen p28 4 2 = s.wait.length := by unfold cLen; rw [hp]; rfl
  have c2 : cVer p28 4 2 = v := by unfold cVer; rw [hp]; rfl
  have c3 : cOff p28 4 2 = 0 := by unfold cOff; rw [hp]; rfl
  have k1 := loop_overZ (R := List Tree) (Z := List AV × Heap → Option (List Tree)) (B := fun n z p again => L13_4 n p28 p6 z p again) (s := (([.t (tI 0)], hP1 rate s v es) : List AV × Heap)) s.wait
    (fun i (_ : Unit) => (([.t (tI i)], hP1 rate s v es) : List AV × Heap))
    (fun i _ x => if decide (x.exp ≤ t) = true then .done (i : Int) else .next ()) (fun _ => -1) (fun z (q : Int) => z ([.t (tI q)], hP1 rate s v es)) (fun _ _ => True) () rfl trivial (find_run0 _ _)
    (fun i u x hx hI => Ev.of fun n z again => ?_) (fun _ _ _ _ _ _ _ => trivial) (fun u hI => Ev.of fun n z again => ?_)
  · rw [fresh_eq]
    rcases idx_cases (fun x : Entry => decide (x.exp ≤ t)) s.wait with ⟨hi, hn⟩ | ⟨i, x, hi, hx, hpx, hb⟩
    · rw [hi] at k1
      have e2 : s.wait.filter (fun x => !decide (x.exp ≤ t)) = s.wait := filter_none fun j y _ hy => hn y (List.mem_of_getElem? hy)
      rw [e2]
      refine ⟨es, he, k1.mono fun n h z => ?_⟩
      rw [h]
      simp only [J13_7, hP1, bxS, c1, c2, c3, vI_mk, vB_mk, vS_mk, vL_mk, sVer_mk, sOff_mk, sLen_mk, oVer_mk, oEs_mk, cI_mk, cB_mk, cS_mk, cL_mk, cVer_mk, cOff_mk, cLen_mk, gI_zero, gI_succ, gB_zero, gB_succ, gS_zero, gS_succ, gL_zero, gL_succ, okI_zero, okI_succ, okB_zero, okB_succ, okS_zero, okS_succ, okL_zero, okL_succ, isIntT_int, isBoolT_bool, isStrT_str, isSlT_sl, intOf_int, boolOf_bool, strOf_str, slOf_sl, treeOf_t, srVer_sref, srOff_sref, srLen_sref, ver_row, esOf_row, cellOf_box, aI_mk, aB_mk, aS_mk, aL_mk, aggOf_agg, join_eq, List.getD_cons_zero, List.getD_cons_succ, decide_true, decide_false, cnd_true, cnd_false, true_and, and_true, false_and, and_false, Option.bind_some, Option.bind_none, List.length_cons, List.length_nil, List.length_map, List.getElem?_map, Option.map_some, Option.map_none, Int.toNat_natCast, reduceCtorEq, eq_self, if_true, if_false, Nat.zero_add, Nat.reduceAdd, Nat.reduceEqDiff, Int.natCast_nonneg, List.drop_zero, or_true, true_or, or_false, false_or, Bool.not_true, Bool.not_false, Bool.false_eq_true, decide_eq_true_eq, ge_iff_le, gt_iff_lt, beq_self_eq_true]
    · rw [hi] at k1
      have hil := lt_of_some hx
      obtain ⟨ex, rfl⟩ := he
      refine ⟨(s.wait.filter (fun x => !decide (x.exp ≤ t))).map Entry.enc ++ (List.replicate (s.wait.length - (s.wait.filter (fun x => !decide (x.exp ≤ t))).length) zE ++ ex), ⟨_, rfl⟩, ?_⟩
      have k2 := del_overZ (R := List Tree) (Z := List AV × Heap → Option (List Tree)) (B := fun n z p again => L13_6 n p28 p6 z p again)
        (fun z (r : List Entry) => z ([], hP1 rate { s with wait := r } v (r.map Entry.enc ++ (List.replicate (s.wait.length - r.length) zE ++ ex)))) (fun x => decide (x.exp ≤ t)) s.wait
        (fun (d : DS Entry) => (([.t (tI d.i), .t (tI d.j)], hP1 rate s v (d.es.map Entry.enc ++ ex)) : List AV × Heap)) ⟨i, i + 1, s.wait⟩ rfl (DInv.start hx hpx hb) (fun d hD => Ev.of fun n z again => ?_)
      · refine (k1.and k2).mono fun n h z => ?_
        rw [h.1]
        have h2 := h.2 z
        simp only [hP1, bxS] at h2
        simp only [J13_7, hP1, bxS, c1, c2, c3, vI_mk, vB_mk, vS_mk, vL_mk, sVer_mk, sOff_mk, sLen_mk, oVer_mk, oEs_mk, cI_mk, cB_mk, cS_mk, cL_mk, cVer_mk, cOff_mk, cLen_mk, gI_zero, gI_succ, gB_zero, gB_succ, gS_zero, gS_succ, gL_zero, gL_succ, okI_zero, okI_succ, okB_zero, okB_succ, okS_zero, okS_succ, okL_zero, okL_succ, isIntT_int, isBoolT_bool, isStrT_str, isSlT_sl, intOf_int, boolOf_bool, strOf_str, slOf_sl, treeOf_t, srVer_sref, srOff_sref, srLen_sref, ver_row, esOf_row, cellOf_box, aI_mk, aB_mk, aS_mk, aL_mk, aggOf_agg, join_eq, List.getD_cons_zero, List.getD_cons_succ, decide_true, decide_false, cnd_true, cnd_false, true_and, and_true, false_and, and_false, Option.bind_some, Option.bind_none, List.length_cons, List.length_nil, List.length_map, List.getElem?_map, Option.map_some, Option.map_none, Int.toNat_natCast, reduceCtorEq, eq_self, if_true, if_false, Nat.zero_add, Nat.reduceAdd, Nat.reduceEqDiff, Int.natCast_nonneg, List.drop_zero, or_true, true_or, or_false, false_or, Bool.not_true, Bool.not_false, Bool.false_eq_true, decide_eq_true_eq, ge_iff_le, gt_iff_lt, (show (((i : Nat) : Int) == -1) = false by simp), w64_succ (show i < 4611686018427387904 by omega)]
        exact h2
      · have hat := hD.at
        obtain ⟨i', j, es1⟩ := d
        obtain ⟨d1, d2, d3, d4, d5⟩ := hD
        simp only at d1 d2 d3 d4 d5 hat
        unfold dstep
        simp only
        cases hy : s.wait[j]? with
        | none =>
          have hj : s.wait.length ≤ j := by simpa using hy
          have hrf := rowFin (ex := ex) (i := i') d3 (by omega)
          have htl : (es1.take i').length = i' := by simp; omega
          have hlen1 : i' < (es1.map Entry.enc ++ ex).length := by simp; omega
          have hlen2 : (i' : Int) ≤ (((rowSet (es1.map Entry.enc ++ ex) i' (List.replicate (s.wait.length - i') zE)).length : Nat) : Int) := by rw [hrf]; simp; omega
          have hlen3 : 0 < (rowSet (es1.map Entry.enc ++ ex) i' (List.replicate (s.wait.length - i') zE)).length := by rw [hrf]; simp; omega
          simp only [zE] at hrf hlen2 hlen3
          simp only [L13_6, hP1, bxS, c1, c2, c3, vI_mk, vB_mk, vS_mk, vL_mk, sVer_mk, sOff_mk, sLen_mk, oVer_mk, oEs_mk, cI_mk, cB_mk, cS_mk, cL_mk, cVer_mk, cOff_mk, cLen_mk, gI_zero, gI_succ, gB_zero, gB_succ, gS_zero, gS_succ, gL_zero, gL_succ, okI_zero, okI_succ, okB_zero, okB_succ, okS_zero, okS_succ, okL_zero, okL_succ, isIntT_int, isBoolT_bool, isStrT_str, isSlT_sl, intOf_int, boolOf_bool, strOf_str, slOf_sl, treeOf_t, srVer_sref, srOff_sref, srLen_sref, ver_row, esOf_row, cellOf_box, aI_mk, aB_mk, aS_mk, aL_mk, aggOf_agg, join_eq, List.getD_cons_zero, List.getD_cons_succ, decide_true, decide_false, cnd_true, cnd_false, true_and, and_true, false_and, and_false, Option.bind_some, Option.bind_none, List.length_cons, List.length_nil, List.length_map, List.getElem?_map, Option.map_some, Option.map_none, Int.toNat_natCast, reduceCtorEq, eq_self, if_true, if_false, Nat.zero_add, Nat.reduceAdd, Nat.reduceEqDiff, Int.natCast_nonneg, List.drop_zero, or_true, true_or, or_false, false_or, Bool.not_true, Bool.not_false, Bool.false_eq_true, decide_eq_true_eq, ge_iff_le, gt_iff_lt, Nat.sub_zero, (show ¬ (j : Int) < (s.wait.length : Int) by omega), (show (i' : Int) ≤ (s.wait.length : Int) by omega), hlen1, hlen2, hlen3, Rd.go_done, htl, zE]
          rw [hrf]
        | some y =>
          have hj := lt_of_some hy
          have hi2 : es1[i']? = some es1[i'] := List.getElem?_eq_getElem (by omega)
          have hg1 : (es1.map Entry.enc ++ ex)[j]? = some y.enc := by rw [List.getElem?_append_left (by simp; omega), List.getElem?_map, hat, hy]; rfl
          have hg2 : (es1.map Entry.enc ++ ex)[i']? = some (es1[i']).enc := by rw [List.getElem?_append_left (by simp; omega), List.getElem?_map, hi2]; rfl
          have hset : List.set (es1.map Entry.enc ++ ex) i' y.enc = (es1.set i' y).map Entry.enc ++ ex := by rw [List.set_append_left _ _ (by simp; omega), List.map_set]
          simp only [Entry.enc] at hset hg1 hg2
          simp only [L13_6, J13_5, hP1, bxS, c1, c2, c3, vI_mk, vB_mk, vS_mk, vL_mk, sVer_mk, sOff_mk, sLen_mk, oVer_mk, oEs_mk, cI_mk, cB_mk, cS_mk, cL_mk, cVer_mk, cOff_mk, cLen_mk, gI_zero, gI_succ, gB_zero, gB_succ, gS_zero, gS_succ, gL_zero, gL_succ, okI_zero, okI_succ, okB_zero, okB_succ, okS_zero, okS_succ, okL_zero, okL_succ, isIntT_int, isBoolT_bool, isStrT_str, isSlT_sl, intOf_int, boolOf_bool, strOf_str, slOf_sl, treeOf_t, srVer_sref, srOff_sref, srLen_sref, ver_row, esOf_row, cellOf_box, aI_mk, aB_mk, aS_mk, aL_mk, aggOf_agg, join_eq, List.getD_cons_zero, List.getD_cons_succ, decide_true, decide_false, cnd_true, cnd_false, true_and, and_true, false_and, and_false, Option.bind_some, Option.bind_none, List.length_cons, List.length_nil, List.length_map, List.getElem?_map, Option.map_some, Option.map_none, Int.toNat_natCast, reduceCtorEq, eq_self, if_true, if_false, Nat.zero_add, Nat.reduceAdd, Nat.reduceEqDiff, Int.natCast_nonneg, List.drop_zero, or_true, true_or, or_false, false_or, Bool.not_true, Bool.not_false, Bool.false_eq_true, decide_eq_true_eq, ge_iff_le, gt_iff_lt, (show (j : Int) < (s.wait.length : Int) by omega), hg1, hg2, h6, (show (i' : Int) < (s.wait.length : Int) by omega), Nat.le_refl, w64_succ (show i' < 4611686018427387904 by omega), w64_succ (show j < 4611686018427387904 by omega), List.drop_succ_cons, List.append_nil, List.drop_nil, List.cons_append, List.nil_append]
          by_cases hpy : y.exp ≤ t
          · simp only [hpy, vI_mk, vB_mk, vS_mk, vL_mk, sVer_mk, sOff_mk, sLen_mk, oVer_mk, oEs_mk, cI_mk, cB_mk, cS_mk, cL_mk, cVer_mk, cOff_mk, cLen_mk, gI_zero, gI_succ, gB_zero, gB_succ, gS_zero, gS_succ, gL_zero, gL_succ, okI_zero, okI_succ, okB_zero, okB_succ, okS_zero, okS_succ, okL_zero, okL_succ, isIntT_int, isBoolT_bool, isStrT_str, isSlT_sl, intOf_int, boolOf_bool, strOf_str, slOf_sl, treeOf_t, srVer_sref, srOff_sref, srLen_sref, ver_row, esOf_row, cellOf_box, aI_mk, aB_mk, aS_mk, aL_mk, aggOf_agg, join_eq, List.getD_cons_zero, List.getD_cons_succ, decide_true, decide_false, cnd_true, cnd_false, true_and, and_true, false_and, and_false, Option.bind_some, Option.bind_none, List.length_cons, List.length_nil, List.length_map, List.getElem?_map, Option.map_some, Option.map_none, Int.toNat_natCast, reduceCtorEq, eq_self, if_true, if_false, Nat.zero_add, Nat.reduceAdd, Nat.reduceEqDiff, Int.natCast_nonneg, List.drop_zero, or_true, true_or, or_false, false_or, Bool.not_true, Bool.not_false, Bool.false_eq_true, decide_eq_true_eq, ge_iff_le, gt_iff_lt, Rd.go_next]
          · simp only [hpy, vI_mk, vB_mk, vS_mk, vL_mk, sVer_mk, sOff_mk, sLen_mk, oVer_mk, oEs_mk, cI_mk, cB_mk, cS_mk, cL_mk, cVer_mk, cOff_mk, cLen_mk, gI_zero, gI_succ, gB_zero, gB_succ, gS_zero, gS_succ, gL_zero, gL_succ, okI_zero, okI_succ, okB_zero, okB_succ, okS_zero, okS_succ, okL_zero, okL_succ, isIntT_int, isBoolT_bool, isStrT_str, isSlT_sl, intOf_int, boolOf_bool, strOf_str, slOf_sl, treeOf_t, srVer_sref, srOff_sref, srLen_sref, ver_row, esOf_row, cellOf_box, aI_mk, aB_mk, aS_mk, aL_mk, aggOf_agg, join_eq, List.getD_cons_zero, List.getD_cons_succ, decide_true, decide_false, cnd_true, cnd_false, true_and, and_true, false_and, and_false, Option.bind_some, Option.bind_none, List.length_cons, List.length_nil, List.length_map, List.getElem?_map, Option.map_some, Option.map_none, Int.toNat_natCast, reduceCtorEq, eq_self, if_true, if_false, Nat.zero_add, Nat.reduceAdd, Nat.reduceEqDiff, Int.natCast_nonneg, List.drop_zero, or_true, true_or, or_false, false_or, Bool.not_true, Bool.not_false, Bool.false_eq_true, decide_eq_true_eq, ge_iff_le, gt_iff_lt, Rd.go_next, hset]
  · have hi := lt_of_some hx
    have g := he.get hx
    simp only [Entry.enc] at g
    simp only [L13_4, hP1, bxS, c1, c2, c3, vI_mk, vB_mk, vS_mk, vL_mk, sVer_mk, sOff_mk, sLen_mk, oVer_mk, oEs_mk, cI_mk, cB_mk, cS_mk, cL_mk, cVer_mk, cOff_mk, cLen_mk, gI_zero, gI_succ, gB_zero, gB_succ, gS_zero, gS_succ, gL_zero, gL_succ, okI_zero, okI_succ, okB_zero, okB_succ, okS_zero, okS_succ, okL_zero, okL_succ, isIntT_int, isBoolT_bool, isStrT_str, isSlT_sl, intOf_int, boolOf_bool, strOf_str, slOf_sl, treeOf_t, srVer_sref, srOff_sref, srLen_sref, ver_row, esOf_row, cellOf_box, aI_mk, aB_mk, aS_mk, aL_mk, aggOf_agg, join_eq, List.getD_cons_zero, List.getD_cons_succ, decide_true, decide_false, cnd_true, cnd_false, true_and, and_true, false_and, and_false, Option.bind_some, Option.bind_none, List.length_cons, List.length_nil, List.length_map, List.getElem?_map, Option.map_some, Option.map_none, Int.toNat_natCast, reduceCtorEq, eq_self, if_true, if_false, Nat.zero_add, Nat.reduceAdd, Nat.reduceEqDiff, Int.natCast_nonneg, List.drop_zero, or_true, true_or, or_false, false_or, Bool.not_true, Bool.not_false, Bool.false_eq_true, decide_eq_true_eq, ge_iff_le, gt_iff_lt, (show (i : Int) < (s.wait.length : Int) by omega), g, h6, w64_succ (show i < 4611686018427387904 by omega)]
    by_cases h : x.exp ≤ t
    · simp only [h, vI_mk, vB_mk, vS_mk, vL_mk, sVer_mk, sOff_mk, sLen_mk, oVer_mk, oEs_mk, cI_mk, cB_mk, cS_mk, cL_mk, cVer_mk, cOff_mk, cLen_mk, gI_zero, gI_succ, gB_zero, gB_succ, gS_zero, gS_succ, gL_zero, gL_succ, okI_zero, okI_succ, okB_zero, okB_succ, okS_zero, okS_succ, okL_zero, okL_succ, isIntT_int, isBoolT_bool, isStrT_str, isSlT_sl, intOf_int, boolOf_bool, strOf_str, slOf_sl, treeOf_t, srVer_sref, srOff_sref, srLen_sref, ver_row, esOf_row, cellOf_box, aI_mk, aB_mk, aS_mk, aL_mk, aggOf_agg, join_eq, List.getD_cons_zero, List.getD_cons_succ, decide_true, decide_false, cnd_true, cnd_false, true_and, and_true, false_and, and_false, Option.bind_some, Option.bind_none, List.length_cons, List.length_nil, List.length_map, List.getElem?_map, Option.map_some, Option.map_none, Int.toNat_natCast, reduceCtorEq, eq_self, if_true, if_false, Nat.zero_add, Nat.reduceAdd, Nat.reduceEqDiff, Int.natCast_nonneg, List.drop_zero, or_true, true_or, or_false, false_or, Bool.not_true, Bool.not_false, Bool.false_eq_true, decide_eq_true_eq, ge_iff_le, gt_iff_lt, Rd.go_done]
    · simp only [h, vI_mk, vB_mk, vS_mk, vL_mk, sVer_mk, sOff_mk, sLen_mk, oVer_mk, oEs_mk, cI_mk, cB_mk, cS_mk, cL_mk, cVer_mk, cOff_mk, cLen_mk, gI_zero, gI_succ, gB_zero, gB_succ, gS_zero, gS_succ, gL_zero, gL_succ, okI_zero, okI_succ, okB_zero, okB_succ, okS_zero, okS_succ, okL_zero, okL_succ, isIntT_int, isBoolT_bool, isStrT_str, isSlT_sl, intOf_int, boolOf_bool, strOf_str, slOf_sl, treeOf_t, srVer_sref, srOff_sref, srLen_sref, ver_row, esOf_row, cellOf_box, aI_mk, aB_mk, aS_mk, aL_mk, aggOf_agg, join_eq, List.getD_cons_zero, List.getD_cons_succ, decide_true, decide_false, cnd_true, cnd_false, true_and, and_true, false_and, and_false, Option.bind_some, Option.bind_none, List.length_cons, List.length_nil, List.length_map, List.getElem?_map, Option.map_some, Option.map_none, Int.toNat_natCast, reduceCtorEq, eq_self, if_true, if_false, Nat.zero_add, Nat.reduceAdd, Nat.reduceEqDiff, Int.natCast_nonneg, List.drop_zero, or_true, true_or, or_false, false_or, Bool.not_true, Bool.not_false, Bool.false_eq_true, decide_eq_true_eq, ge_iff_le, gt_iff_lt, Rd.go_next]
  · simp only [L13_4, hP1, bxS, c1, c2, c3, vI_mk, vB_mk, vS_mk, vL_mk, sVer_mk, sOff_mk, sLen_mk, oVer_mk, oEs_mk, cI_mk, cB_mk, cS_mk, cL_mk, cVer_mk, cOff_mk, cLen_mk, gI_zero, gI_succ, gB_zero, gB_succ, gS_zero, gS_succ, gL_zero, gL_succ, okI_zero, okI_succ, okB_zero, okB_succ, okS_zero, okS_succ, okL_zero, okL_succ, isIntT_int, isBoolT_bool, isStrT_str, isSlT_sl, intOf_int, boolOf_bool, strOf_str, slOf_sl, treeOf_t, srVer_sref, srOff_sref, srLen_sref, ver_row, esOf_row, cellOf_box, aI_mk, aB_mk, aS_mk, aL_mk, aggOf_agg, join_eq, List.getD_cons_zero, List.getD_cons_succ, decide_true, decide_false, cnd_true, cnd_false, true_and, and_true, false_and, and_false, Option.bind_some, Option.bind_none, List.length_cons, List.length_nil, List.length_map, List.getElem?_map, Option.map_some, Option.map_none, Int.toNat_natCast, reduceCtorEq, eq_self, if_true, if_false, Nat.zero_add, Nat.reduceAdd, Nat.reduceEqDiff, Int.natCast_nonneg, List.drop_zero, or_true, true_or, or_false, false_or, Bool.not_true, Bool.not_false, Bool.false_eq_true, decide_eq_true_eq, ge_iff_le, gt_iff_lt, Int.lt_irrefl]
/-- All of a step behind the arrivals. -/
theorem p3 (l : List Arr) (hl : l.length ≤ 64) {rate : Int} (hr : 1 ≤ rate ∧ rate ≤ 1000) {t : Int} (ht : 0 ≤ t ∧ t ≤ 1099520016384) (s : QS) (hs : QMid l s) (v : Nat) (es : List (List Tree)) (he : Holds s.wait es) (p6 : List AV × Heap) (h6 : vI p6 0 = t) :
    ∃ v' es', Holds (begP rate t (preP t (expQ t s))).wait es' ∧ Ev fun n => ∀ ag27 z, J13_24 n ag27 z p6 ([.t (.bool false)], hP1 rate s v es) = z ([], hP rate (begP rate t (preP t (expQ t s))) v' es') := by
  have hwl := hs.wl
  obtain ⟨es1, q1, q2⟩ := x1 (rate := rate) s v es he (by omega) p6 ([.t (.bool false)], hP1 rate s v es) h6 rfl
  obtain ⟨v', es', q3, q4⟩ := p4 l hl hr ht (expQ t s) (hs.exp t) v es1 q1 p6 h6
  refine ⟨v', es', q3, (q2.and q4).mono fun n h ag27 z => ?_⟩
  obtain ⟨h1, h2⟩ := h
  have h1' := h1 fun p32 => J13_23 n z p6 p32
  have h2' := h2 z
  simp only [hP1, bxS, expQ] at h1' h2'
  simp only [J13_24, hP1, bxS, vI_mk, vB_mk, vS_mk, vL_mk, sVer_mk, sOff_mk, sLen_mk, oVer_mk, oEs_mk, cI_mk, cB_mk, cS_mk, cL_mk, cVer_mk, cOff_mk, cLen_mk, gI_zero, gI_succ, gB_zero, gB_succ, gS_zero, gS_succ, gL_zero, gL_succ, okI_zero, okI_succ, okB_zero, okB_succ, okS_zero, okS_succ, okL_zero, okL_succ, isIntT_int, isBoolT_bool, isStrT_str, isSlT_sl, intOf_int, boolOf_bool, strOf_str, slOf_sl, treeOf_t, srVer_sref, srOff_sref, srLen_sref, ver_row, esOf_row, cellOf_box, aI_mk, aB_mk, aS_mk, aL_mk, aggOf_agg, join_eq, List.getD_cons_zero, List.getD_cons_succ, decide_true, decide_false, cnd_true, cnd_false, true_and, and_true, false_and, and_false, Option.bind_some, Option.bind_none, List.length_cons, List.length_nil, List.length_map, List.getElem?_map, Option.map_some, Option.map_none, Int.toNat_natCast, reduceCtorEq, eq_self, if_true, if_false, Nat.zero_add, Nat.reduceAdd, Nat.reduceEqDiff, Int.natCast_nonneg, List.drop_zero, or_true, true_or, or_false, false_or, Bool.not_true, Bool.not_false, Bool.false_eq_true, decide_eq_true_eq, ge_iff_le, gt_iff_lt]
  exact h1'.trans h2'
theorem take_mid {l : List Arr} (hg : GoodA l) {s : QS} (hs : QMid l s) (k : Nat) (hk : k ≤ s.co.length) : QMid l { s with wait := s.wait ++ (s.co.take k).map Arr.e, co := s.co.drop k } := by
  refine ⟨drop_suffix hs.co (List.drop_suffix _ _), hs.out, ?_, fun x hx => ?_, hs.nv⟩
  · have := hs.wl
    simp only [List.length_append, List.length_map, List.length_take, List.length_drop]
    omega
  · rw [List.mem_append, List.mem_map] at hx
    rcases hx with hx | ⟨a, ha, rfl⟩
    · exact hs.wv x hx
    · have := List.mem_of_mem_take ha
      rw [hs.co] at this
      exact (hg.val a (List.mem_of_mem_drop this)).2
/-- Arrivals, one by one: what is ahead is known. -/
theorem p2 (l : List Arr) (hg : GoodA l) {rate : Int} (hr : 1 ≤ rate ∧ rate ≤ 1000) {t : Int} (ht : 0 ≤ t ∧ t ≤ 1099520016384) (p6 : List AV × Heap) (h6 : vI p6 0 = t) :
    ∀ (k : Nat) (s : QS), (s.co.takeWhile fun a => decide (a.at_ = t)).length = k → QMid l s → ∀ (v : Nat) (es : List (List Tree)), Holds s.wait es →
    ∃ v' es', Holds (begP rate t (preP t (expQ t (takeP t s)))).wait es' ∧ Ev fun n => ∀ z m, k < m → loopIter (fun p again => L13_25 n z p6 p again) m ([], hP1 rate s v es) = z ([], hP rate (begP rate t (preP t (expQ t (takeP t s)))) v' es')
  | 0, s, hk, hs, v, es, he => by
    have htw : (s.co.takeWhile fun a => decide (a.at_ = t)) = [] := List.eq_nil_of_length_eq_zero hk
    have hco : s.co.dropWhile (fun a => decide (a.at_ = t)) = s.co := by rw [dw_drop, hk]; rfl
    have htp : takeP t s = s := by unfold takeP; rw [htw, hco]; simp
    rw [htp]
    obtain ⟨v', es', q1, q2⟩ := p3 l hg.len hr ht s hs v es he p6 h6
    refine ⟨v', es', q1, q2.mono fun n h z m hm => ?_⟩
    obtain ⟨m, rfl⟩ : ∃ q, m = q + 1 := ⟨m - 1, by omega⟩
    show L13_25 n z p6 _ (loopIter _ m) = _
    have h' := h (loopIter (fun p again => L13_25 n z p6 p again) m) z
    simp only [hP1, bxS] at h'
    cases hc : s.co with
    | nil =>
      simp only [hc, List.map_nil] at h'
      simp only [L13_25, hP1, bxS, hc, vI_mk, vB_mk, vS_mk, vL_mk, sVer_mk, sOff_mk, sLen_mk, oVer_mk, oEs_mk, cI_mk, cB_mk, cS_mk, cL_mk, cVer_mk, cOff_mk, cLen_mk, gI_zero, gI_succ, gB_zero, gB_succ, gS_zero, gS_succ, gL_zero, gL_succ, okI_zero, okI_succ, okB_zero, okB_succ, okS_zero, okS_succ, okL_zero, okL_succ, isIntT_int, isBoolT_bool, isStrT_str, isSlT_sl, intOf_int, boolOf_bool, strOf_str, slOf_sl, treeOf_t, srVer_sref, srOff_sref, srLen_sref, ver_row, esOf_row, cellOf_box, aI_mk, aB_mk, aS_mk, aL_mk, aggOf_agg, join_eq, List.getD_cons_zero, List.getD_cons_succ, decide_true, decide_false, cnd_true, cnd_false, true_and, and_true, false_and, and_false, Option.bind_some, Option.bind_none, List.length_cons, List.length_nil, List.length_map, List.getElem?_map, Option.map_some, Option.map_none, Int.toNat_natCast, reduceCtorEq, eq_self, if_true, if_false, Nat.zero_add, Nat.reduceAdd, Nat.reduceEqDiff, Int.natCast_nonneg, List.drop_zero, or_true, true_or, or_false, false_or, Bool.not_true, Bool.not_false, Bool.false_eq_true, decide_eq_true_eq, ge_iff_le, gt_iff_lt, List.map_nil, Int.natCast_zero, Int.lt_irrefl]
      exact h'
    | cons a r =>
      have hat : ¬ a.at_ = t := by
        intro h
        rw [hc, List.takeWhile_cons] at htw
        simp [h] at htw
      have hbe : (a.at_ == t) = false := by simpa using hat
      simp only [hc, List.map_cons, Arr.enc] at h'
      simp only [L13_25, hP1, bxS, hc, vI_mk, vB_mk, vS_mk, vL_mk, sVer_mk, sOff_mk, sLen_mk, oVer_mk, oEs_mk, cI_mk, cB_mk, cS_mk, cL_mk, cVer_mk, cOff_mk, cLen_mk, gI_zero, gI_succ, gB_zero, gB_succ, gS_zero, gS_succ, gL_zero, gL_succ, okI_zero, okI_succ, okB_zero, okB_succ, okS_zero, okS_succ, okL_zero, okL_succ, isIntT_int, isBoolT_bool, isStrT_str, isSlT_sl, intOf_int, boolOf_bool, strOf_str, slOf_sl, treeOf_t, srVer_sref, srOff_sref, srLen_sref, ver_row, esOf_row, cellOf_box, aI_mk, aB_mk, aS_mk, aL_mk, aggOf_agg, join_eq, List.getD_cons_zero, List.getD_cons_succ, decide_true, decide_false, cnd_true, cnd_false, true_and, and_true, false_and, and_false, Option.bind_some, Option.bind_none, List.length_cons, List.length_nil, List.length_map, List.getElem?_map, Option.map_some, Option.map_none, Int.toNat_natCast, reduceCtorEq, eq_self, if_true, if_false, Nat.zero_add, Nat.reduceAdd, Nat.reduceEqDiff, Int.natCast_nonneg, List.drop_zero, or_true, true_or, or_false, false_or, Bool.not_true, Bool.not_false, Bool.false_eq_true, decide_eq_true_eq, ge_iff_le, gt_iff_lt, List.map_cons, List.getElem?_cons_zero, Arr.enc, (show (0 : Int) < ((r.length + 1 : Nat) : Int) by omega), h6, hbe]
      exact h'
  | k + 1, s, hk, hs, v, es, he => by
    cases hc : s.co with
    | nil => rw [hc] at hk; simp at hk
    | cons a r =>
      have hat : a.at_ = t := by
        rw [hc, List.takeWhile_cons] at hk
        by_cases h : a.at_ = t
        · exact h
        · simp [h] at hk
      have hk2 : (r.takeWhile fun a => decide (a.at_ = t)).length = k := by
        rw [hc, List.takeWhile_cons] at hk
        simp [hat] at hk
        exact hk
      have hm := take_mid hg hs 1 (by rw [hc]; simp)
      rw [hc] at hm
      simp only [List.take_succ_cons, List.take_zero, List.drop_succ_cons, List.drop_zero, List.map_cons, List.map_nil] at hm
      have hwl := hs.wl
      have hlen := hg.len
      obtain ⟨v', es', q1, q2⟩ := p2 l hg hr ht p6 h6 k { s with wait := s.wait ++ [a.e], co := r } hk2 hm (v + 1) ((s.wait ++ [a.e]).map Entry.enc) (Holds.self _)
      have htp : takeP t { s with wait := s.wait ++ [a.e], co := r } = takeP t s := by
        unfold takeP
        simp only [hc, List.takeWhile_cons, List.dropWhile_cons, hat, decide_true, if_true, List.map_cons, List.append_assoc, List.cons_append, List.nil_append]
      rw [htp] at q1 q2
      refine ⟨v', es', q1, q2.mono fun n h z m hm => ?_⟩
      obtain ⟨m, rfl⟩ : ∃ q, m = q + 1 := ⟨m - 1, by omega⟩
      show L13_25 n z p6 _ (loopIter _ m) = _
      refine Eq.trans ?_ (h z m (by omega))
      have hbe : (a.at_ == t) = true := by simpa using hat
      have e1 : List.take r.length (List.map Arr.enc r) = List.map Arr.enc r := List.take_of_length_le (by simp)
      have htk := he.take
      have hhl := he.len
      simp only [L13_25, J13_24, hP1, bxS, hc, vI_mk, vB_mk, vS_mk, vL_mk, sVer_mk, sOff_mk, sLen_mk, oVer_mk, oEs_mk, cI_mk, cB_mk, cS_mk, cL_mk, cVer_mk, cOff_mk, cLen_mk, gI_zero, gI_succ, gB_zero, gB_succ, gS_zero, gS_succ, gL_zero, gL_succ, okI_zero, okI_succ, okB_zero, okB_succ, okS_zero, okS_succ, okL_zero, okL_succ, isIntT_int, isBoolT_bool, isStrT_str, isSlT_sl, intOf_int, boolOf_bool, strOf_str, slOf_sl, treeOf_t, srVer_sref, srOff_sref, srLen_sref, ver_row, esOf_row, cellOf_box, aI_mk, aB_mk, aS_mk, aL_mk, aggOf_agg, join_eq, List.getD_cons_zero, List.getD_cons_succ, decide_true, decide_false, cnd_true, cnd_false, true_and, and_true, false_and, and_false, Option.bind_some, Option.bind_none, List.length_cons, List.length_nil, List.length_map, List.getElem?_map, Option.map_some, Option.map_none, Int.toNat_natCast, reduceCtorEq, eq_self, if_true, if_false, Nat.zero_add, Nat.reduceAdd, Nat.reduceEqDiff, Int.natCast_nonneg, List.drop_zero, or_true, true_or, or_false, false_or, Bool.not_true, Bool.not_false, Bool.false_eq_true, decide_eq_true_eq, ge_iff_le, gt_iff_lt, List.map_cons, List.getElem?_cons_zero, Arr.enc, (show (0 : Int) < ((r.length + 1 : Nat) : Int) by omega), h6, hbe, hhl, (show s.wait.length + 1 ≤ 1073741824 by omega), (show (0 : Int) ≤ 1 by omega), (show (1 : Int) ≤ ((r.length + 1 : Nat) : Int) by omega), List.take_succ_cons, List.drop_succ_cons, e1, htk, List.map_append, List.map_nil, List.length_append, Entry.enc]
end Ab
