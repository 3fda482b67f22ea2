/- Agenda: Concat, and the laws Splits and Sets. -/
import Derived.Test.YtglkblaagdoagaaAgD
set_option linter.unusedVariables false
set_option linter.unusedSimpArgs false
namespace Ab
open Go

theorem ev_unused {α : Type} {p : Nat → Prop} (h : Ev p) : Ev fun n => ∀ _ : α, p n := h.mono fun n x _ => x
def encS (es : List (List Tree)) : List Tree := [.sl 3 es]
theorem flat_take {α : Type} : ∀ (L : List (List α)) (i : Nat) (x : List α), L[i]? = some x → (L.take (i + 1)).flatten = (L.take i).flatten ++ x
  | [], i, x, h => by simp at h
  | y :: L, 0, x, h => by simp at h; subst h; simp
  | y :: L, i + 1, x, h => by
    have := flat_take L i x (by simpa using h)
    simp only [List.take_succ_cons, List.flatten_cons, this, List.append_assoc]
theorem flat_le {α : Type} (L : List (List α)) (i : Nat) : (L.take i).flatten.length ≤ L.flatten.length := by
  conv => rhs; rw [← List.take_append_drop i L]
  rw [List.flatten_append, List.length_append]
  omega
theorem sConcat (L : List (List (List Tree))) (hL : L.length ≤ 1000) (hl : L.flatten.length ≤ 1000000) : Runs C 1000026 [.sl 1 (L.map encS)] [.sl 3 L.flatten] := by
  refine Runs.of (fun n => e1000026 n _) ?_
  refine loop_overQ (fun (r : List (List Tree)) => [Tree.sl 3 r]) L (fun i (s : Unit) => (([.t (tI (L.take i).flatten.length), .t (tI i)], []) : List AV × Heap)) (fun _ s x => .next ()) (fun s => L.flatten) (fun i s => True) () (by simp) trivial (runL_fold (fun _ _ => ()) (fun _ => L.flatten) 0 L ())
    (fun i s x hx hI => Ev.of fun n again => ?_) (fun i s x s' hx hI hs' => trivial) (fun s hI => ?_)
  · have hi := lt_of_some hx
    have h1 := flat_take L i x hx
    have h2 := flat_le L (i + 1)
    rw [h1, List.length_append] at h2
    have hw : w64 (((L.take i).flatten.length : Int) + (x.length : Int)) = (((L.take (i + 1)).flatten.length : Nat) : Int) := by
      rw [h1, List.length_append, w64_id (by omega) (by omega)]
      omega
    simp only [vI_mk, vB_mk, vS_mk, vL_mk, sVer_mk, sOff_mk, sLen_mk, oVer_mk, oEs_mk, cI_mk, cB_mk, cS_mk, cL_mk, cVer_mk, cOff_mk, cLen_mk, gI_zero, gI_succ, gB_zero, gB_succ, gS_zero, gS_succ, gL_zero, gL_succ, okI_zero, okI_succ, okB_zero, okB_succ, okS_zero, okS_succ, okL_zero, okL_succ, isIntT_int, isBoolT_bool, isStrT_str, isSlT_sl, intOf_int, boolOf_bool, strOf_str, slOf_sl, treeOf_t, srVer_sref, srOff_sref, srLen_sref, ver_row, esOf_row, cellOf_box, List.getD_cons_zero, List.getD_cons_succ, decide_true, decide_false, cnd_true, cnd_false, true_and, and_true, false_and, and_false, Option.bind_some, Option.bind_none, List.length_cons, List.length_nil, List.length_map, List.getElem?_map, Option.map_some, Option.map_none, Int.toNat_natCast, reduceCtorEq, eq_self, if_true, if_false, Nat.zero_add, Nat.reduceAdd, Nat.reduceEqDiff, Int.natCast_nonneg, List.drop_zero, or_true, true_or, or_false, false_or, Bool.not_true, Bool.not_false, Bool.false_eq_true, decide_eq_true_eq, ge_iff_le, gt_iff_lt, hx, encS, (show (i : Int) < L.length by omega), w64_succ (show i < 4611686018427387904 by omega), Rd.go_next, hw, (show ¬ (((L.take (i + 1)).flatten.length : Nat) : Int) < 0 by omega)]
  · simp only [vI_mk, vB_mk, vS_mk, vL_mk, sVer_mk, sOff_mk, sLen_mk, oVer_mk, oEs_mk, cI_mk, cB_mk, cS_mk, cL_mk, cVer_mk, cOff_mk, cLen_mk, gI_zero, gI_succ, gB_zero, gB_succ, gS_zero, gS_succ, gL_zero, gL_succ, okI_zero, okI_succ, okB_zero, okB_succ, okS_zero, okS_succ, okL_zero, okL_succ, isIntT_int, isBoolT_bool, isStrT_str, isSlT_sl, intOf_int, boolOf_bool, strOf_str, slOf_sl, treeOf_t, srVer_sref, srOff_sref, srLen_sref, ver_row, esOf_row, cellOf_box, List.getD_cons_zero, List.getD_cons_succ, decide_true, decide_false, cnd_true, cnd_false, true_and, and_true, false_and, and_false, Option.bind_some, Option.bind_none, List.length_cons, List.length_nil, List.length_map, List.getElem?_map, Option.map_some, Option.map_none, Int.toNat_natCast, reduceCtorEq, eq_self, if_true, if_false, Nat.zero_add, Nat.reduceAdd, Nat.reduceEqDiff, Int.natCast_nonneg, List.drop_zero, or_true, true_or, or_false, false_or, Bool.not_true, Bool.not_false, Bool.false_eq_true, decide_eq_true_eq, ge_iff_le, gt_iff_lt, Int.lt_irrefl, List.take_length, (show ((L.flatten.length : Nat) : Int) ≤ 1073741824 by omega)]
    refine ev_unused (loop_overQ (fun (r : List (List Tree)) => [Tree.sl 3 r]) L (fun i (v : Nat) => (([.sref 0 v 0 (L.take i).flatten.length, .t (tI i)], [.row false v 3 (L.take i).flatten]) : List AV × Heap)) (fun _ v x => .next (v + 1)) (fun s => L.flatten) (fun i s => True) 0 rfl trivial (runL_fold (fun v _ => v + 1) (fun _ => L.flatten) 0 L 0)
      (fun i v x hx hI => Ev.of fun n again => ?_) (fun i s x s' hx hI hs' => trivial) (fun s hI => Ev.of fun n again => ?_))
    · have hi := lt_of_some hx
      have h1 := flat_take L i x hx
      have h2 := flat_le L (i + 1)
      rw [h1, List.length_append] at h2
      simp only [vI_mk, vB_mk, vS_mk, vL_mk, sVer_mk, sOff_mk, sLen_mk, oVer_mk, oEs_mk, cI_mk, cB_mk, cS_mk, cL_mk, cVer_mk, cOff_mk, cLen_mk, gI_zero, gI_succ, gB_zero, gB_succ, gS_zero, gS_succ, gL_zero, gL_succ, okI_zero, okI_succ, okB_zero, okB_succ, okS_zero, okS_succ, okL_zero, okL_succ, isIntT_int, isBoolT_bool, isStrT_str, isSlT_sl, intOf_int, boolOf_bool, strOf_str, slOf_sl, treeOf_t, srVer_sref, srOff_sref, srLen_sref, ver_row, esOf_row, cellOf_box, List.getD_cons_zero, List.getD_cons_succ, decide_true, decide_false, cnd_true, cnd_false, true_and, and_true, false_and, and_false, Option.bind_some, Option.bind_none, List.length_cons, List.length_nil, List.length_map, List.getElem?_map, Option.map_some, Option.map_none, Int.toNat_natCast, reduceCtorEq, eq_self, if_true, if_false, Nat.zero_add, Nat.reduceAdd, Nat.reduceEqDiff, Int.natCast_nonneg, List.drop_zero, or_true, true_or, or_false, false_or, Bool.not_true, Bool.not_false, Bool.false_eq_true, decide_eq_true_eq, ge_iff_le, gt_iff_lt, hx, encS, (show (i : Int) < L.length by omega), w64_succ (show i < 4611686018427387904 by omega), Rd.go_next, Nat.lt_irrefl, (show (L.take i).flatten.length + x.length ≤ 1073741824 by omega)]
      rw [h1, List.length_append]
    · simp only [vI_mk, vB_mk, vS_mk, vL_mk, sVer_mk, sOff_mk, sLen_mk, oVer_mk, oEs_mk, cI_mk, cB_mk, cS_mk, cL_mk, cVer_mk, cOff_mk, cLen_mk, gI_zero, gI_succ, gB_zero, gB_succ, gS_zero, gS_succ, gL_zero, gL_succ, okI_zero, okI_succ, okB_zero, okB_succ, okS_zero, okS_succ, okL_zero, okL_succ, isIntT_int, isBoolT_bool, isStrT_str, isSlT_sl, intOf_int, boolOf_bool, strOf_str, slOf_sl, treeOf_t, srVer_sref, srOff_sref, srLen_sref, ver_row, esOf_row, cellOf_box, List.getD_cons_zero, List.getD_cons_succ, decide_true, decide_false, cnd_true, cnd_false, true_and, and_true, false_and, and_false, Option.bind_some, Option.bind_none, List.length_cons, List.length_nil, List.length_map, List.getElem?_map, Option.map_some, Option.map_none, Int.toNat_natCast, reduceCtorEq, eq_self, if_true, if_false, Nat.zero_add, Nat.reduceAdd, Nat.reduceEqDiff, Int.natCast_nonneg, List.drop_zero, or_true, true_or, or_false, false_or, Bool.not_true, Bool.not_false, Bool.false_eq_true, decide_eq_true_eq, ge_iff_le, gt_iff_lt, Int.lt_irrefl, List.take_length]

/-! ### the parts of Until -/
theorem until_run (t : Int) : ∀ (l : List Event) (i : Nat), runL (fun i (_ : Unit) (e : Event) => if t < e.time then .done i else .next ()) (fun _ => i + l.length) i l () = i + (l.takeWhile fun e => decide (e.time ≤ t)).length
  | [], i => by simp [runL]
  | e :: l, i => by
    by_cases h : t < e.time
    · simp [runL, h, show ¬ e.time ≤ t by omega]
    · have ih := until_run t l (i + 1)
      simp only [runL, if_neg h, List.length_cons]
      rw [show i + (l.length + 1) = i + 1 + l.length by omega, ih]
      simp [show e.time ≤ t by omega]
      omega
theorem untilN_eq (l : List Event) (t : Int) : untilN l t = (l.takeWhile fun e => decide (e.time ≤ t)).length := by
  have := until_run t l 0
  simpa [untilN] using this
theorem take_tw {α : Type} (p : α → Bool) : ∀ (l : List α), l.take (l.takeWhile p).length = l.takeWhile p
  | [] => rfl
  | x :: l => by cases h : p x <;> simp [h, take_tw p l]
theorem drop_tw {α : Type} (p : α → Bool) : ∀ (l : List α), l.drop (l.takeWhile p).length = l.dropWhile p
  | [] => rfl
  | x :: l => by cases h : p x <;> simp [h, drop_tw p l]
theorem srt_time {a b : Event} (h : less a b = true) : a.time ≤ b.time := by
  unfold less at h
  simp only [decide_eq_true_eq] at h
  omega
theorem dw_late (t : Int) : ∀ (l : List Event), Srt l → ∀ e ∈ l.dropWhile (fun e => decide (e.time ≤ t)), t < e.time
  | [], _, e, h => by simp at h
  | x :: l, hs, e, h => by
    by_cases hx : x.time ≤ t
    · simp only [List.dropWhile_cons, hx, decide_true, if_true] at h
      exact dw_late t l (srt_cons.1 hs).2 e h
    · simp only [List.dropWhile_cons, hx, decide_false] at h
      simp only [Bool.false_eq_true, if_false, List.mem_cons] at h
      rcases h with rfl | h
      · omega
      · have := srt_time ((srt_cons.1 hs).1 e h)
        omega
theorem tw_early (t : Int) : ∀ (l : List Event), ∀ e ∈ l.takeWhile (fun e => decide (e.time ≤ t)), e.time ≤ t
  | [], e, h => by simp at h
  | x :: l, e, h => by
    by_cases hx : x.time ≤ t
    · simp only [List.takeWhile_cons, hx, decide_true, if_true, List.mem_cons] at h
      rcases h with rfl | h
      · exact hx
      · exact tw_early t l e h
    · simp [hx] at h
theorem tw_len {t u : Int} (h : t ≤ u) : ∀ (l : List Event), (l.takeWhile fun e => decide (e.time ≤ t)).length ≤ (l.takeWhile fun e => decide (e.time ≤ u)).length
  | [] => by simp
  | x :: l => by
    by_cases hx : x.time ≤ t
    · have := tw_len h l
      simp [hx, show x.time ≤ u by omega]
      exact this
    · simp [hx]

/-- A search that finds nothing, in a list of events. -/
theorem law6 (l : List Event) (t u : Int) : Runs C 6 [.sl 3 (l.map Event.enc), tI t, tI u] [.bool true] := by
  refine Runs.of (fun n => e6 n _ _ _) ?_
  simp only [List.length_map, decide_eq_true_eq]
  by_cases h0 : l.length > 40
  · refine s11.mono fun n h => ?_
    rw [cnd_pos (by omega)]
    simp only [h, vI_mk, vB_mk, vS_mk, vL_mk, sVer_mk, sOff_mk, sLen_mk, oVer_mk, oEs_mk, cI_mk, cB_mk, cS_mk, cL_mk, cVer_mk, cOff_mk, cLen_mk, gI_zero, gI_succ, gB_zero, gB_succ, gS_zero, gS_succ, gL_zero, gL_succ, okI_zero, okI_succ, okB_zero, okB_succ, okS_zero, okS_succ, okL_zero, okL_succ, isIntT_int, isBoolT_bool, isStrT_str, isSlT_sl, intOf_int, boolOf_bool, strOf_str, slOf_sl, treeOf_t, srVer_sref, srOff_sref, srLen_sref, ver_row, esOf_row, cellOf_box, List.getD_cons_zero, List.getD_cons_succ, decide_true, decide_false, cnd_true, cnd_false, true_and, and_true, false_and, and_false, Option.bind_some, Option.bind_none, List.length_cons, List.length_nil, List.length_map, List.getElem?_map, Option.map_some, Option.map_none, Int.toNat_natCast, reduceCtorEq, eq_self, if_true, if_false, Nat.zero_add, Nat.reduceAdd, Nat.reduceEqDiff, Int.natCast_nonneg, List.drop_zero, or_true, true_or, or_false, false_or, Bool.not_true, Bool.not_false, Bool.false_eq_true, decide_eq_true_eq, ge_iff_le, gt_iff_lt]
  simp only [cnd_neg (show ¬ ((l.length : Nat) : Int) > 40 by omega)]
  by_cases hc : agCheck l = 0
  · have hg := (ag_srt l).1 hc
    generalize ht1 : (if u < t then u else t) = t1
    generalize ht2 : (if u > t then u else t) = t2
    have htt : t1 ≤ t2 := by grind
    have ua : ∀ t, untA l t = l.takeWhile fun e => decide (e.time ≤ t) := fun t => by simp [untA, hc, untilN_eq, take_tw]
    have ub : ∀ t, untB l t = l.dropWhile fun e => decide (e.time ≤ t) := fun t => by simp [untB, hc, untilN_eq, drop_tw]
    have uc : untC l = 0 := by simp [untC, hc]
    have hcat : ∀ t, Runs C 1000026 [Tree.sl 1 [[Tree.sl 3 ((untA l t).map Event.enc)], [Tree.sl 3 ((untB l t).map Event.enc)]]] [Tree.sl 3 (l.map Event.enc)] := fun t => by
      have := sConcat [(untA l t).map Event.enc, (untB l t).map Event.enc] (by simp) (by
        simp only [List.flatten_cons, List.flatten_nil, List.append_nil, ← List.map_append, ua, ub, List.takeWhile_append_dropWhile, List.length_map]; omega)
      simp only [List.flatten_cons, List.flatten_nil, List.append_nil, ← List.map_append] at this
      rw [show untA l t ++ untB l t = l by rw [ua, ub, List.takeWhile_append_dropWhile]] at this
      exact this
    have hle : ¬ ((untA l t2).length : Int) < ((untA l t1).length : Int) := by
      have := tw_len htt l
      rw [ua, ua]
      omega
    refine Ev.rw (T' := ?TT) ((s10 l).and ((s17 l t1).and ((s17 l t2).and ((hcat t1).and ((hcat t2).and ((s20 l l (by omega)))))))) (fun n h => ?g1) ?g2
    case g1 =>
      obtain ⟨h1, h2, h3, h4, h5, h6⟩ := h
      have e1 : List.take l.length (List.map Event.enc l) = List.map Event.enc l := List.take_of_length_le (by simp)
      simp only [h1, h2, h3, h4, h5, e1, h6, vI_mk, vB_mk, vS_mk, vL_mk, sVer_mk, sOff_mk, sLen_mk, oVer_mk, oEs_mk, cI_mk, cB_mk, cS_mk, cL_mk, cVer_mk, cOff_mk, cLen_mk, gI_zero, gI_succ, gB_zero, gB_succ, gS_zero, gS_succ, gL_zero, gL_succ, okI_zero, okI_succ, okB_zero, okB_succ, okS_zero, okS_succ, okL_zero, okL_succ, isIntT_int, isBoolT_bool, isStrT_str, isSlT_sl, intOf_int, boolOf_bool, strOf_str, slOf_sl, treeOf_t, srVer_sref, srOff_sref, srLen_sref, ver_row, esOf_row, cellOf_box, List.getD_cons_zero, List.getD_cons_succ, decide_true, decide_false, cnd_true, cnd_false, true_and, and_true, false_and, and_false, Option.bind_some, Option.bind_none, List.length_cons, List.length_nil, List.length_map, List.getElem?_map, Option.map_some, Option.map_none, Int.toNat_natCast, reduceCtorEq, eq_self, if_true, if_false, Nat.zero_add, Nat.reduceAdd, Nat.reduceEqDiff, Int.natCast_nonneg, List.drop_zero, or_true, true_or, or_false, false_or, Bool.not_true, Bool.not_false, Bool.false_eq_true, decide_eq_true_eq, ge_iff_le, gt_iff_lt, hc, uc, bne_self_eq_false, hle]
      rfl
    case g2 =>
      have hA : ∀ e ∈ untA l t1, e.time ≤ t1 := fun e he => by
        rw [ua] at he
        exact tw_early t1 l e he
      have hB : ∀ e ∈ untB l t1, t1 < e.time := fun e he => by
        rw [ub] at he
        exact dw_late t1 l hg.2.2 e he
      have lA : (untA l t1).length ≤ 1000 := by rw [ua]; have := (List.takeWhile_sublist (fun e => decide (e.time ≤ t1)) (l := l)).length_le; omega
      have lB : (untB l t1).length ≤ 1000 := by rw [ub]; have := (List.dropWhile_sublist (fun e => decide (e.time ≤ t1)) (l := l)).length_le; omega
      refine loop_overQ (fun (r : Bool) => [Tree.bool r]) (untA l t1) (fun i (s : Unit) => (([.t (tI i)], []) : List AV × Heap)) (fun _ s x => .next ()) (fun s => true) (fun i s => True) () rfl trivial (runL_fold (fun _ _ => ()) (fun _ => true) 0 _ ())
        (fun i s x hx hI => Ev.of fun n again => ?_) (fun i s x s' hx hI hs' => trivial) (fun s hI => ?_)
      · have hi := lt_of_some hx
        have := hA x (List.mem_of_getElem? hx)
        simp only [vI_mk, vB_mk, vS_mk, vL_mk, sVer_mk, sOff_mk, sLen_mk, oVer_mk, oEs_mk, cI_mk, cB_mk, cS_mk, cL_mk, cVer_mk, cOff_mk, cLen_mk, gI_zero, gI_succ, gB_zero, gB_succ, gS_zero, gS_succ, gL_zero, gL_succ, okI_zero, okI_succ, okB_zero, okB_succ, okS_zero, okS_succ, okL_zero, okL_succ, isIntT_int, isBoolT_bool, isStrT_str, isSlT_sl, intOf_int, boolOf_bool, strOf_str, slOf_sl, treeOf_t, srVer_sref, srOff_sref, srLen_sref, ver_row, esOf_row, cellOf_box, List.getD_cons_zero, List.getD_cons_succ, decide_true, decide_false, cnd_true, cnd_false, true_and, and_true, false_and, and_false, Option.bind_some, Option.bind_none, List.length_cons, List.length_nil, List.length_map, List.getElem?_map, Option.map_some, Option.map_none, Int.toNat_natCast, reduceCtorEq, eq_self, if_true, if_false, Nat.zero_add, Nat.reduceAdd, Nat.reduceEqDiff, Int.natCast_nonneg, List.drop_zero, or_true, true_or, or_false, false_or, Bool.not_true, Bool.not_false, Bool.false_eq_true, decide_eq_true_eq, ge_iff_le, gt_iff_lt, hx, Event.enc, (show (i : Int) < (untA l t1).length by omega), w64_succ (show i < 4611686018427387904 by omega), Rd.go_next, (show ¬ t1 < x.time by omega)]
      · simp only [vI_mk, vB_mk, vS_mk, vL_mk, sVer_mk, sOff_mk, sLen_mk, oVer_mk, oEs_mk, cI_mk, cB_mk, cS_mk, cL_mk, cVer_mk, cOff_mk, cLen_mk, gI_zero, gI_succ, gB_zero, gB_succ, gS_zero, gS_succ, gL_zero, gL_succ, okI_zero, okI_succ, okB_zero, okB_succ, okS_zero, okS_succ, okL_zero, okL_succ, isIntT_int, isBoolT_bool, isStrT_str, isSlT_sl, intOf_int, boolOf_bool, strOf_str, slOf_sl, treeOf_t, srVer_sref, srOff_sref, srLen_sref, ver_row, esOf_row, cellOf_box, List.getD_cons_zero, List.getD_cons_succ, decide_true, decide_false, cnd_true, cnd_false, true_and, and_true, false_and, and_false, Option.bind_some, Option.bind_none, List.length_cons, List.length_nil, List.length_map, List.getElem?_map, Option.map_some, Option.map_none, Int.toNat_natCast, reduceCtorEq, eq_self, if_true, if_false, Nat.zero_add, Nat.reduceAdd, Nat.reduceEqDiff, Int.natCast_nonneg, List.drop_zero, or_true, true_or, or_false, false_or, Bool.not_true, Bool.not_false, Bool.false_eq_true, decide_eq_true_eq, ge_iff_le, gt_iff_lt, Int.lt_irrefl]
        refine ev_unused (loop_overQ (fun (r : Bool) => [Tree.bool r]) (untB l t1) (fun i (s : Unit) => (([.t (tI i)], []) : List AV × Heap)) (fun _ s x => .next ()) (fun s => true) (fun i s => True) () rfl trivial (runL_fold (fun _ _ => ()) (fun _ => true) 0 _ ())
          (fun i s x hx hI => Ev.of fun n again => ?_) (fun i s x s' hx hI hs' => trivial) (fun s hI => ?_))
        · have hi := lt_of_some hx
          have := hB x (List.mem_of_getElem? hx)
          simp only [vI_mk, vB_mk, vS_mk, vL_mk, sVer_mk, sOff_mk, sLen_mk, oVer_mk, oEs_mk, cI_mk, cB_mk, cS_mk, cL_mk, cVer_mk, cOff_mk, cLen_mk, gI_zero, gI_succ, gB_zero, gB_succ, gS_zero, gS_succ, gL_zero, gL_succ, okI_zero, okI_succ, okB_zero, okB_succ, okS_zero, okS_succ, okL_zero, okL_succ, isIntT_int, isBoolT_bool, isStrT_str, isSlT_sl, intOf_int, boolOf_bool, strOf_str, slOf_sl, treeOf_t, srVer_sref, srOff_sref, srLen_sref, ver_row, esOf_row, cellOf_box, List.getD_cons_zero, List.getD_cons_succ, decide_true, decide_false, cnd_true, cnd_false, true_and, and_true, false_and, and_false, Option.bind_some, Option.bind_none, List.length_cons, List.length_nil, List.length_map, List.getElem?_map, Option.map_some, Option.map_none, Int.toNat_natCast, reduceCtorEq, eq_self, if_true, if_false, Nat.zero_add, Nat.reduceAdd, Nat.reduceEqDiff, Int.natCast_nonneg, List.drop_zero, or_true, true_or, or_false, false_or, Bool.not_true, Bool.not_false, Bool.false_eq_true, decide_eq_true_eq, ge_iff_le, gt_iff_lt, hx, Event.enc, (show (i : Int) < (untB l t1).length by omega), w64_succ (show i < 4611686018427387904 by omega), Rd.go_next, (show ¬ x.time ≤ t1 by omega)]
        · refine s11.mono fun n h again => ?_
          simp only [h, vI_mk, vB_mk, vS_mk, vL_mk, sVer_mk, sOff_mk, sLen_mk, oVer_mk, oEs_mk, cI_mk, cB_mk, cS_mk, cL_mk, cVer_mk, cOff_mk, cLen_mk, gI_zero, gI_succ, gB_zero, gB_succ, gS_zero, gS_succ, gL_zero, gL_succ, okI_zero, okI_succ, okB_zero, okB_succ, okS_zero, okS_succ, okL_zero, okL_succ, isIntT_int, isBoolT_bool, isStrT_str, isSlT_sl, intOf_int, boolOf_bool, strOf_str, slOf_sl, treeOf_t, srVer_sref, srOff_sref, srLen_sref, ver_row, esOf_row, cellOf_box, List.getD_cons_zero, List.getD_cons_succ, decide_true, decide_false, cnd_true, cnd_false, true_and, and_true, false_and, and_false, Option.bind_some, Option.bind_none, List.length_cons, List.length_nil, List.length_map, List.getElem?_map, Option.map_some, Option.map_none, Int.toNat_natCast, reduceCtorEq, eq_self, if_true, if_false, Nat.zero_add, Nat.reduceAdd, Nat.reduceEqDiff, Int.natCast_nonneg, List.drop_zero, or_true, true_or, or_false, false_or, Bool.not_true, Bool.not_false, Bool.false_eq_true, decide_eq_true_eq, ge_iff_le, gt_iff_lt, Int.lt_irrefl]
  · refine ((s10 l).and s11).mono fun n ⟨h, h2⟩ => ?_
    simp only [h, h2, vI_mk, vB_mk, vS_mk, vL_mk, sVer_mk, sOff_mk, sLen_mk, oVer_mk, oEs_mk, cI_mk, cB_mk, cS_mk, cL_mk, cVer_mk, cOff_mk, cLen_mk, gI_zero, gI_succ, gB_zero, gB_succ, gS_zero, gS_succ, gL_zero, gL_succ, okI_zero, okI_succ, okB_zero, okB_succ, okS_zero, okS_succ, okL_zero, okL_succ, isIntT_int, isBoolT_bool, isStrT_str, isSlT_sl, intOf_int, boolOf_bool, strOf_str, slOf_sl, treeOf_t, srVer_sref, srOff_sref, srLen_sref, ver_row, esOf_row, cellOf_box, List.getD_cons_zero, List.getD_cons_succ, decide_true, decide_false, cnd_true, cnd_false, true_and, and_true, false_and, and_false, Option.bind_some, Option.bind_none, List.length_cons, List.length_nil, List.length_map, List.getElem?_map, Option.map_some, Option.map_none, Int.toNat_natCast, reduceCtorEq, eq_self, if_true, if_false, Nat.zero_add, Nat.reduceAdd, Nat.reduceEqDiff, Int.natCast_nonneg, List.drop_zero, or_true, true_or, or_false, false_or, Bool.not_true, Bool.not_false, Bool.false_eq_true, decide_eq_true_eq, ge_iff_le, gt_iff_lt]
    rw [cnd_pos (by simp [hc])]
end Ab
