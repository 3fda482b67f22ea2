/- Booking: Add and Block: what the functions answer. -/
import Derived.Test.YtlgphbnkicihgaaBkK
set_option linter.unusedVariables false
set_option linter.unusedSimpArgs false
namespace Ab
open Go

theorem brel_tr {a b c : Booking} (h1 : BRel a b) (h2 : BRel b c) : BRel a c := by
  unfold BRel at *
  omega
theorem bookCheck_ok {q : List Int} {cs : List Contact} {l : List Booking} (h : bookCheck q cs l = 0) : planCheck q cs = 0 ∧ l.length ≤ 512 ∧ BookOk cs l := by
  simp only [bookCheck] at h
  split at h
  · omega
  · split at h
    · omega
    · rename_i h1 h2
      exact ⟨by simpa using h1, by omega, bookL_ok h⟩
theorem runL_next {α : Type} {step : Nat → Unit → α → Rd Unit Int} : ∀ (l : List α) (i : Nat), (∀ j x, l[j]? = some x → step (i + j) () x = .next ()) → runL step (fun _ => 0) i l () = 0
  | [], i, _ => rfl
  | y :: l, i, h => by
    have h0 := h 0 y rfl
    simp only [Nat.add_zero] at h0
    simp only [runL, h0]
    exact runL_next l (i + 1) fun j x hx => by
      have := h (j + 1) x (by simpa using hx)
      rwa [show i + (j + 1) = i + 1 + j by omega] at this
theorem bookCheck_of {q : List Int} {cs : List Contact} {l : List Booking} (h1 : planCheck q cs = 0) (h2 : l.length ≤ 512) (h3 : BookOk cs l) : bookCheck q cs l = 0 := by
  unfold bookCheck
  rw [if_neg (by simp [h1]), if_neg (by omega)]
  refine runL_next l 0 fun j x hx => ?_
  have hv := h3.valid x (List.mem_of_getElem? hx)
  simp only [bookStep, hv, Nat.zero_add]
  cases j with
  | zero => simp
  | succ j =>
    have hj := lt_of_some hx
    have ha : l[j]? = some l[j] := List.getElem?_eq_getElem (by omega)
    have hr := List.pairwise_iff_getElem.1 h3.sorted j (j + 1) (by omega) hj (by omega)
    rw [List.getElem?_eq_getElem hj] at hx
    cases hx
    have hlt := valid_lt (h3.valid l[j] (List.getElem_mem _))
    simp only [Nat.add_sub_cancel, ha]
    unfold BRel at hr
    grind

def ovl (l : List Booking) (b : Booking) : Bool := l.any fun x => decide (x.contact = b.contact ∧ x.beg < b.stop ∧ b.beg < x.stop)
theorem ovl_false {l : List Booking} {b : Booking} (h : ovl l b = false) {x : Booking} (hx : x ∈ l) (hc : x.contact = b.contact) : b.stop ≤ x.beg ∨ x.stop ≤ b.beg := by
  unfold ovl at h
  rw [List.any_eq_false] at h
  have := h x hx
  simp only [decide_eq_true_eq] at this
  omega
theorem down_of {cs : List Contact} {l : List Booking} (h : BookOk cs l) (b : Booking) : Down (fun x => bLt x b) l := by
  intro i j x y hij hx hy hlt
  rcases Nat.lt_or_ge i j with hlt2 | hge
  · have h1 := lt_of_some hx
    have h2 := lt_of_some hy
    have hr := List.pairwise_iff_getElem.1 h.sorted i j h1 h2 hlt2
    rw [List.getElem?_eq_getElem h1] at hx
    rw [List.getElem?_eq_getElem h2] at hy
    cases hx; cases hy
    have hv := valid_lt (h.valid l[i] (List.getElem_mem _))
    unfold BRel at hr
    unfold bLt at *
    simp only [decide_eq_true_eq] at *
    omega
  · obtain rfl : i = j := by omega
    rw [hx] at hy
    cases hy
    exact hlt
/-- A booking put in its place. -/
def bIns (l : List Booking) (b : Booking) : List Booking := insB (fun x => !bLt x b) b l
theorem ins_same {cs : List Contact} {l : List Booking} {b : Booking} (h : BookOk cs l) (hv : validB cs b = true) (ho : ovl l b = false) : insB (fun x => bGt x b) b l = bIns l b := by
  refine insB_congr b fun x hx => ?_
  have hlt := valid_lt (h.valid x hx)
  have hb := valid_lt hv
  unfold bGt bLt
  by_cases hc : x.contact = b.contact
  · have := ovl_false ho hx hc
    rw [Bool.eq_iff_iff]
    simp only [decide_eq_true_eq, Bool.not_eq_true', decide_eq_false_iff_not]
    omega
  · rw [Bool.eq_iff_iff]
    simp only [decide_eq_true_eq, Bool.not_eq_true', decide_eq_false_iff_not]
    omega
theorem ins_ok {cs : List Contact} {l : List Booking} {b : Booking} (h : BookOk cs l) (hv : validB cs b = true) (ho : ovl l b = false) : BookOk cs (bIns l b) := by
  have hb := valid_lt hv
  refine ⟨fun x hx => ?_, insB_pairwise h.sorted (fun x hx hg => ?_) (fun x hx hg => ?_) fun x hx y hy hr hg => ?_⟩
  · rcases (insB_mem _ b l x).1 hx with rfl | hx
    · exact hv
    · exact h.valid x hx
  · have hlt := valid_lt (h.valid x hx)
    unfold BRel
    unfold bLt at hg
    simp only [Bool.not_eq_true', decide_eq_false_iff_not] at hg
    by_cases hc : x.contact = b.contact
    · have := ovl_false ho hx hc; omega
    · omega
  · have hlt := valid_lt (h.valid x hx)
    unfold BRel
    unfold bLt at hg
    simp only [Bool.not_eq_false', decide_eq_true_eq] at hg
    by_cases hc : x.contact = b.contact
    · have := ovl_false ho hx hc; omega
    · omega
  · have h1 := valid_lt (h.valid x hx)
    unfold BRel at hr
    unfold bLt at *
    simp only [Bool.not_eq_true', decide_eq_false_iff_not] at *
    omega

/-! ### Add -/
def addC (q : List Int) (cs : List Contact) (l : List Booking) (b : Booking) : Int :=
  if bookCheck q cs l ≠ 0 then 1 else if validB cs b = false then 2 else if l.length = 512 then 4 else if ovl l b = true then 14 else 0
def addL (q : List Int) (cs : List Contact) (l : List Booking) (b : Booking) : List Booking := if addC q cs l b = 0 then bIns l b else []
theorem add_ok {q : List Int} {cs : List Contact} {l : List Booking} {b : Booking} (h : addC q cs l b = 0) : bookCheck q cs l = 0 ∧ validB cs b = true ∧ l.length < 512 ∧ ovl l b = false := by
  unfold addC at h
  have := fun h => (bookCheck_ok (q := q) (cs := cs) (l := l) h).2.1
  grind
theorem busy_any (l : List Booking) (b : Booking) : (busy l b.contact).any (fun x => decide (x.frm < b.stop ∧ b.beg < x.to)) = ovl l b := by
  unfold busy ovl
  induction l with
  | nil => rfl
  | cons x l ih =>
    by_cases hc : x.contact = b.contact
    · rw [List.filterMap_cons_some (b := ⟨x.beg, x.stop⟩) (by simp [hc]), List.any_cons, List.any_cons, ih]
      simp [hc]
    · rw [List.filterMap_cons_none (by simp [hc]), List.any_cons, ih]
      simp [hc]
theorem s26 (q : List Int) (cs : List Contact) (l : List Booking) (b : Booking) :
    Runs C 26 [.sl 1 (q.map encI), .sl 7 (cs.map Contact.enc), .sl 4 (l.map Booking.enc), tI b.contact, tI b.beg, tI b.stop, tI b.ticket] [.sl 4 ((addL q cs l b).map Booking.enc), tI (addC q cs l b)] := by
  refine Runs.of (fun n => e26 n _ _ _ _ _ _ _) ?_
  by_cases h0 : bookCheck q cs l = 0
  · obtain ⟨p1, p2, p3⟩ := bookCheck_ok h0
    cases hv : validB cs b with
    | false =>
      refine ((s19 q cs l).and (s46 q cs b)).mono fun n h => ?_
      simp only [h.1, h.2, vI_mk, vB_mk, vS_mk, vL_mk, sVer_mk, sOff_mk, sLen_mk, oVer_mk, oEs_mk, cI_mk, cB_mk, cS_mk, cL_mk, cVer_mk, cOff_mk, cLen_mk, gI_zero, gI_succ, gB_zero, gB_succ, gS_zero, gS_succ, gL_zero, gL_succ, okI_zero, okI_succ, okB_zero, okB_succ, okS_zero, okS_succ, okL_zero, okL_succ, isIntT_int, isBoolT_bool, isStrT_str, isSlT_sl, intOf_int, boolOf_bool, strOf_str, slOf_sl, treeOf_t, srVer_sref, srOff_sref, srLen_sref, ver_row, esOf_row, cellOf_box, List.getD_cons_zero, List.getD_cons_succ, decide_true, decide_false, cnd_true, cnd_false, true_and, and_true, false_and, and_false, Option.bind_some, Option.bind_none, List.length_cons, List.length_nil, List.length_map, List.getElem?_map, Option.map_some, Option.map_none, Int.toNat_natCast, reduceCtorEq, eq_self, if_true, if_false, Nat.zero_add, Nat.reduceAdd, Nat.reduceEqDiff, Int.natCast_nonneg, List.drop_zero, or_true, true_or, or_false, false_or, Bool.not_true, Bool.not_false, Bool.false_eq_true, decide_eq_true_eq, ge_iff_le, gt_iff_lt, h0, hv, bne_self_eq_false]
      simp [addL, addC, h0, hv]
    | true =>
      by_cases hl : l.length = 512
      · refine ((s19 q cs l).and (s46 q cs b)).mono fun n h => ?_
        simp only [h.1, h.2, vI_mk, vB_mk, vS_mk, vL_mk, sVer_mk, sOff_mk, sLen_mk, oVer_mk, oEs_mk, cI_mk, cB_mk, cS_mk, cL_mk, cVer_mk, cOff_mk, cLen_mk, gI_zero, gI_succ, gB_zero, gB_succ, gS_zero, gS_succ, gL_zero, gL_succ, okI_zero, okI_succ, okB_zero, okB_succ, okS_zero, okS_succ, okL_zero, okL_succ, isIntT_int, isBoolT_bool, isStrT_str, isSlT_sl, intOf_int, boolOf_bool, strOf_str, slOf_sl, treeOf_t, srVer_sref, srOff_sref, srLen_sref, ver_row, esOf_row, cellOf_box, List.getD_cons_zero, List.getD_cons_succ, decide_true, decide_false, cnd_true, cnd_false, true_and, and_true, false_and, and_false, Option.bind_some, Option.bind_none, List.length_cons, List.length_nil, List.length_map, List.getElem?_map, Option.map_some, Option.map_none, Int.toNat_natCast, reduceCtorEq, eq_self, if_true, if_false, Nat.zero_add, Nat.reduceAdd, Nat.reduceEqDiff, Int.natCast_nonneg, List.drop_zero, or_true, true_or, or_false, false_or, Bool.not_true, Bool.not_false, Bool.false_eq_true, decide_eq_true_eq, ge_iff_le, gt_iff_lt, h0, hv, bne_self_eq_false, hl]
        simp [addL, addC, h0, hv, hl, cnd_eq]
      · have hbl := busy_len l b.contact
        refine Ev.rw (T' := ?TT) ((s19 q cs l).and ((s46 q cs b).and (s22 l b.contact (by omega)))) (fun n h => ?g1) ?g2
        case g1 =>
          simp only [h.1, h.2.1, h.2.2, vI_mk, vB_mk, vS_mk, vL_mk, sVer_mk, sOff_mk, sLen_mk, oVer_mk, oEs_mk, cI_mk, cB_mk, cS_mk, cL_mk, cVer_mk, cOff_mk, cLen_mk, gI_zero, gI_succ, gB_zero, gB_succ, gS_zero, gS_succ, gL_zero, gL_succ, okI_zero, okI_succ, okB_zero, okB_succ, okS_zero, okS_succ, okL_zero, okL_succ, isIntT_int, isBoolT_bool, isStrT_str, isSlT_sl, intOf_int, boolOf_bool, strOf_str, slOf_sl, treeOf_t, srVer_sref, srOff_sref, srLen_sref, ver_row, esOf_row, cellOf_box, List.getD_cons_zero, List.getD_cons_succ, decide_true, decide_false, cnd_true, cnd_false, true_and, and_true, false_and, and_false, Option.bind_some, Option.bind_none, List.length_cons, List.length_nil, List.length_map, List.getElem?_map, Option.map_some, Option.map_none, Int.toNat_natCast, reduceCtorEq, eq_self, if_true, if_false, Nat.zero_add, Nat.reduceAdd, Nat.reduceEqDiff, Int.natCast_nonneg, List.drop_zero, or_true, true_or, or_false, false_or, Bool.not_true, Bool.not_false, Bool.false_eq_true, decide_eq_true_eq, ge_iff_le, gt_iff_lt, h0, hv, bne_self_eq_false, (show (((l.length : Nat) : Int) == 512) = false by simp; omega)]
          rfl
        case g2 =>
          have hins := s54 l b (down_of p3 b) (by omega)
          have hr : [Tree.sl 4 ((addL q cs l b).map Booking.enc), tI (addC q cs l b)] = (fun (o : Bool) => if o = true then [Tree.sl 4 [], tI 14] else [Tree.sl 4 ((bIns l b).map Booking.enc), tI 0]) (ovl l b) := by
            cases ho : ovl l b with
            | true => simp [addL, addC, h0, hv, hl, ho]
            | false => simp [addL, addC, h0, hv, hl, ho]
          rw [hr]
          refine loop_overQ (fun (o : Bool) => if o = true then [Tree.sl 4 [], tI 14] else [Tree.sl 4 ((bIns l b).map Booking.enc), tI 0]) (busy l b.contact) (fun i (_ : Unit) => (([.t (tI i)], []) : List AV × Heap)) (fun _ _ x => if decide (x.frm < b.stop ∧ b.beg < x.to) = true then .done true else .next ()) (fun _ => false) (fun _ _ => True) () rfl trivial (by rw [runL_any, busy_any])
            (fun i s x hx hI => Ev.of fun n again => ?_) (fun _ _ _ _ _ _ _ => trivial) (fun s hI => hins.mono fun n h again => ?_)
          · have hi := lt_of_some hx
            simp only [vI_mk, vB_mk, vS_mk, vL_mk, sVer_mk, sOff_mk, sLen_mk, oVer_mk, oEs_mk, cI_mk, cB_mk, cS_mk, cL_mk, cVer_mk, cOff_mk, cLen_mk, gI_zero, gI_succ, gB_zero, gB_succ, gS_zero, gS_succ, gL_zero, gL_succ, okI_zero, okI_succ, okB_zero, okB_succ, okS_zero, okS_succ, okL_zero, okL_succ, isIntT_int, isBoolT_bool, isStrT_str, isSlT_sl, intOf_int, boolOf_bool, strOf_str, slOf_sl, treeOf_t, srVer_sref, srOff_sref, srLen_sref, ver_row, esOf_row, cellOf_box, List.getD_cons_zero, List.getD_cons_succ, decide_true, decide_false, cnd_true, cnd_false, true_and, and_true, false_and, and_false, Option.bind_some, Option.bind_none, List.length_cons, List.length_nil, List.length_map, List.getElem?_map, Option.map_some, Option.map_none, Int.toNat_natCast, reduceCtorEq, eq_self, if_true, if_false, Nat.zero_add, Nat.reduceAdd, Nat.reduceEqDiff, Int.natCast_nonneg, List.drop_zero, or_true, true_or, or_false, false_or, Bool.not_true, Bool.not_false, Bool.false_eq_true, decide_eq_true_eq, ge_iff_le, gt_iff_lt, hx, Span.enc, (show (i : Int) < (busy l b.contact).length by omega), w64_succ (show i < 4611686018427387904 by omega)]
            by_cases c1 : x.frm < b.stop
            · by_cases c2 : b.beg < x.to
              · simp [c1, c2, cnd_eq, Rd.go_done]
              · simp [c1, c2, cnd_eq, Rd.go_next]
            · simp [c1, cnd_eq, Rd.go_next]
          · simp only [h, vI_mk, vB_mk, vS_mk, vL_mk, sVer_mk, sOff_mk, sLen_mk, oVer_mk, oEs_mk, cI_mk, cB_mk, cS_mk, cL_mk, cVer_mk, cOff_mk, cLen_mk, gI_zero, gI_succ, gB_zero, gB_succ, gS_zero, gS_succ, gL_zero, gL_succ, okI_zero, okI_succ, okB_zero, okB_succ, okS_zero, okS_succ, okL_zero, okL_succ, isIntT_int, isBoolT_bool, isStrT_str, isSlT_sl, intOf_int, boolOf_bool, strOf_str, slOf_sl, treeOf_t, srVer_sref, srOff_sref, srLen_sref, ver_row, esOf_row, cellOf_box, List.getD_cons_zero, List.getD_cons_succ, decide_true, decide_false, cnd_true, cnd_false, true_and, and_true, false_and, and_false, Option.bind_some, Option.bind_none, List.length_cons, List.length_nil, List.length_map, List.getElem?_map, Option.map_some, Option.map_none, Int.toNat_natCast, reduceCtorEq, eq_self, if_true, if_false, Nat.zero_add, Nat.reduceAdd, Nat.reduceEqDiff, Int.natCast_nonneg, List.drop_zero, or_true, true_or, or_false, false_or, Bool.not_true, Bool.not_false, Bool.false_eq_true, decide_eq_true_eq, ge_iff_le, gt_iff_lt, Int.lt_irrefl, bIns]
  · refine (s19 q cs l).mono fun n h => ?_
    simp only [h, vI_mk, vB_mk, vS_mk, vL_mk, sVer_mk, sOff_mk, sLen_mk, oVer_mk, oEs_mk, cI_mk, cB_mk, cS_mk, cL_mk, cVer_mk, cOff_mk, cLen_mk, gI_zero, gI_succ, gB_zero, gB_succ, gS_zero, gS_succ, gL_zero, gL_succ, okI_zero, okI_succ, okB_zero, okB_succ, okS_zero, okS_succ, okL_zero, okL_succ, isIntT_int, isBoolT_bool, isStrT_str, isSlT_sl, intOf_int, boolOf_bool, strOf_str, slOf_sl, treeOf_t, srVer_sref, srOff_sref, srLen_sref, ver_row, esOf_row, cellOf_box, List.getD_cons_zero, List.getD_cons_succ, decide_true, decide_false, cnd_true, cnd_false, true_and, and_true, false_and, and_false, Option.bind_some, Option.bind_none, List.length_cons, List.length_nil, List.length_map, List.getElem?_map, Option.map_some, Option.map_none, Int.toNat_natCast, reduceCtorEq, eq_self, if_true, if_false, Nat.zero_add, Nat.reduceAdd, Nat.reduceEqDiff, Int.natCast_nonneg, List.drop_zero, or_true, true_or, or_false, false_or, Bool.not_true, Bool.not_false, Bool.false_eq_true, decide_eq_true_eq, ge_iff_le, gt_iff_lt]
    rw [cnd_pos (by simp [h0])]
    simp [addL, addC, h0]
theorem s30 (q : List Int) (cs : List Contact) (l : List Booking) (b : Booking) :
    Runs C 30 [.sl 1 (q.map encI), .sl 7 (cs.map Contact.enc), .sl 4 (l.map Booking.enc), tI b.contact, tI b.beg, tI b.stop, tI b.ticket] [.sl 4 ((addL q cs l b).map Booking.enc), tI (addC q cs l b)] := by
  refine Runs.of (fun n => e30 n _ _ _ _ _ _ _) ?_
  by_cases h0 : bookCheck q cs l = 0
  · obtain ⟨p1, p2, p3⟩ := bookCheck_ok h0
    cases hv : validB cs b with
    | false =>
      refine ((s20 q cs l).and (s49 q cs b)).mono fun n h => ?_
      simp only [h.1, h.2, vI_mk, vB_mk, vS_mk, vL_mk, sVer_mk, sOff_mk, sLen_mk, oVer_mk, oEs_mk, cI_mk, cB_mk, cS_mk, cL_mk, cVer_mk, cOff_mk, cLen_mk, gI_zero, gI_succ, gB_zero, gB_succ, gS_zero, gS_succ, gL_zero, gL_succ, okI_zero, okI_succ, okB_zero, okB_succ, okS_zero, okS_succ, okL_zero, okL_succ, isIntT_int, isBoolT_bool, isStrT_str, isSlT_sl, intOf_int, boolOf_bool, strOf_str, slOf_sl, treeOf_t, srVer_sref, srOff_sref, srLen_sref, ver_row, esOf_row, cellOf_box, List.getD_cons_zero, List.getD_cons_succ, decide_true, decide_false, cnd_true, cnd_false, true_and, and_true, false_and, and_false, Option.bind_some, Option.bind_none, List.length_cons, List.length_nil, List.length_map, List.getElem?_map, Option.map_some, Option.map_none, Int.toNat_natCast, reduceCtorEq, eq_self, if_true, if_false, Nat.zero_add, Nat.reduceAdd, Nat.reduceEqDiff, Int.natCast_nonneg, List.drop_zero, or_true, true_or, or_false, false_or, Bool.not_true, Bool.not_false, Bool.false_eq_true, decide_eq_true_eq, ge_iff_le, gt_iff_lt, h0, hv, bne_self_eq_false]
      simp [addL, addC, h0, hv]
    | true =>
      by_cases hl : l.length = 512
      · refine ((s20 q cs l).and (s49 q cs b)).mono fun n h => ?_
        simp only [h.1, h.2, vI_mk, vB_mk, vS_mk, vL_mk, sVer_mk, sOff_mk, sLen_mk, oVer_mk, oEs_mk, cI_mk, cB_mk, cS_mk, cL_mk, cVer_mk, cOff_mk, cLen_mk, gI_zero, gI_succ, gB_zero, gB_succ, gS_zero, gS_succ, gL_zero, gL_succ, okI_zero, okI_succ, okB_zero, okB_succ, okS_zero, okS_succ, okL_zero, okL_succ, isIntT_int, isBoolT_bool, isStrT_str, isSlT_sl, intOf_int, boolOf_bool, strOf_str, slOf_sl, treeOf_t, srVer_sref, srOff_sref, srLen_sref, ver_row, esOf_row, cellOf_box, List.getD_cons_zero, List.getD_cons_succ, decide_true, decide_false, cnd_true, cnd_false, true_and, and_true, false_and, and_false, Option.bind_some, Option.bind_none, List.length_cons, List.length_nil, List.length_map, List.getElem?_map, Option.map_some, Option.map_none, Int.toNat_natCast, reduceCtorEq, eq_self, if_true, if_false, Nat.zero_add, Nat.reduceAdd, Nat.reduceEqDiff, Int.natCast_nonneg, List.drop_zero, or_true, true_or, or_false, false_or, Bool.not_true, Bool.not_false, Bool.false_eq_true, decide_eq_true_eq, ge_iff_le, gt_iff_lt, h0, hv, bne_self_eq_false, hl]
        simp [addL, addC, h0, hv, hl, cnd_eq]
      · refine Ev.rw (T' := ?TT) ((s20 q cs l).and (s49 q cs b)) (fun n h => ?g1) ?g2
        case g1 =>
          simp only [h.1, h.2, vI_mk, vB_mk, vS_mk, vL_mk, sVer_mk, sOff_mk, sLen_mk, oVer_mk, oEs_mk, cI_mk, cB_mk, cS_mk, cL_mk, cVer_mk, cOff_mk, cLen_mk, gI_zero, gI_succ, gB_zero, gB_succ, gS_zero, gS_succ, gL_zero, gL_succ, okI_zero, okI_succ, okB_zero, okB_succ, okS_zero, okS_succ, okL_zero, okL_succ, isIntT_int, isBoolT_bool, isStrT_str, isSlT_sl, intOf_int, boolOf_bool, strOf_str, slOf_sl, treeOf_t, srVer_sref, srOff_sref, srLen_sref, ver_row, esOf_row, cellOf_box, List.getD_cons_zero, List.getD_cons_succ, decide_true, decide_false, cnd_true, cnd_false, true_and, and_true, false_and, and_false, Option.bind_some, Option.bind_none, List.length_cons, List.length_nil, List.length_map, List.getElem?_map, Option.map_some, Option.map_none, Int.toNat_natCast, reduceCtorEq, eq_self, if_true, if_false, Nat.zero_add, Nat.reduceAdd, Nat.reduceEqDiff, Int.natCast_nonneg, List.drop_zero, or_true, true_or, or_false, false_or, Bool.not_true, Bool.not_false, Bool.false_eq_true, decide_eq_true_eq, ge_iff_le, gt_iff_lt, h0, hv, bne_self_eq_false, (show ¬ (512 : Int) ≤ ((l.length : Nat) : Int) by omega)]
          rfl
        case g2 =>
          have hins := s56 l b (by omega)
          have hr : [Tree.sl 4 ((addL q cs l b).map Booking.enc), tI (addC q cs l b)] = (fun (o : Bool) => if o = true then [Tree.sl 4 [], tI 14] else [Tree.sl 4 ((insB (fun x => bGt x b) b l).map Booking.enc), tI 0]) (ovl l b) := by
            cases ho : ovl l b with
            | true => simp [addL, addC, h0, hv, hl, ho]
            | false => simp [addL, addC, h0, hv, hl, ho, ins_same p3 hv ho]
          rw [hr]
          refine loop_overQ (fun (o : Bool) => if o = true then [Tree.sl 4 [], tI 14] else [Tree.sl 4 ((insB (fun x => bGt x b) b l).map Booking.enc), tI 0]) l (fun i (_ : Unit) => (([.t (tI i)], []) : List AV × Heap)) (fun _ _ x => if decide (x.contact = b.contact ∧ x.beg < b.stop ∧ b.beg < x.stop) = true then .done true else .next ()) (fun _ => false) (fun _ _ => True) () rfl trivial (by rw [runL_any]; rfl)
            (fun i s x hx hI => Ev.of fun n again => ?_) (fun _ _ _ _ _ _ _ => trivial) (fun s hI => hins.mono fun n h again => ?_)
          · have hi := lt_of_some hx
            simp only [vI_mk, vB_mk, vS_mk, vL_mk, sVer_mk, sOff_mk, sLen_mk, oVer_mk, oEs_mk, cI_mk, cB_mk, cS_mk, cL_mk, cVer_mk, cOff_mk, cLen_mk, gI_zero, gI_succ, gB_zero, gB_succ, gS_zero, gS_succ, gL_zero, gL_succ, okI_zero, okI_succ, okB_zero, okB_succ, okS_zero, okS_succ, okL_zero, okL_succ, isIntT_int, isBoolT_bool, isStrT_str, isSlT_sl, intOf_int, boolOf_bool, strOf_str, slOf_sl, treeOf_t, srVer_sref, srOff_sref, srLen_sref, ver_row, esOf_row, cellOf_box, List.getD_cons_zero, List.getD_cons_succ, decide_true, decide_false, cnd_true, cnd_false, true_and, and_true, false_and, and_false, Option.bind_some, Option.bind_none, List.length_cons, List.length_nil, List.length_map, List.getElem?_map, Option.map_some, Option.map_none, Int.toNat_natCast, reduceCtorEq, eq_self, if_true, if_false, Nat.zero_add, Nat.reduceAdd, Nat.reduceEqDiff, Int.natCast_nonneg, List.drop_zero, or_true, true_or, or_false, false_or, Bool.not_true, Bool.not_false, Bool.false_eq_true, decide_eq_true_eq, ge_iff_le, gt_iff_lt, hx, Booking.enc, (show (i : Int) < l.length by omega), w64_succ (show i < 4611686018427387904 by omega)]
            by_cases c0 : x.contact = b.contact
            · by_cases c1 : x.beg < b.stop
              · by_cases c2 : b.beg < x.stop
                · simp [c0, c1, c2, cnd_eq, Rd.go_done]
                · simp [c0, c1, c2, cnd_eq, Rd.go_next]
              · simp [c0, c1, cnd_eq, Rd.go_next]
            · simp [c0, cnd_eq, Rd.go_next]
          · simp only [h, vI_mk, vB_mk, vS_mk, vL_mk, sVer_mk, sOff_mk, sLen_mk, oVer_mk, oEs_mk, cI_mk, cB_mk, cS_mk, cL_mk, cVer_mk, cOff_mk, cLen_mk, gI_zero, gI_succ, gB_zero, gB_succ, gS_zero, gS_succ, gL_zero, gL_succ, okI_zero, okI_succ, okB_zero, okB_succ, okS_zero, okS_succ, okL_zero, okL_succ, isIntT_int, isBoolT_bool, isStrT_str, isSlT_sl, intOf_int, boolOf_bool, strOf_str, slOf_sl, treeOf_t, srVer_sref, srOff_sref, srLen_sref, ver_row, esOf_row, cellOf_box, List.getD_cons_zero, List.getD_cons_succ, decide_true, decide_false, cnd_true, cnd_false, true_and, and_true, false_and, and_false, Option.bind_some, Option.bind_none, List.length_cons, List.length_nil, List.length_map, List.getElem?_map, Option.map_some, Option.map_none, Int.toNat_natCast, reduceCtorEq, eq_self, if_true, if_false, Nat.zero_add, Nat.reduceAdd, Nat.reduceEqDiff, Int.natCast_nonneg, List.drop_zero, or_true, true_or, or_false, false_or, Bool.not_true, Bool.not_false, Bool.false_eq_true, decide_eq_true_eq, ge_iff_le, gt_iff_lt, Int.lt_irrefl]
  · refine (s20 q cs l).mono fun n h => ?_
    simp only [h, vI_mk, vB_mk, vS_mk, vL_mk, sVer_mk, sOff_mk, sLen_mk, oVer_mk, oEs_mk, cI_mk, cB_mk, cS_mk, cL_mk, cVer_mk, cOff_mk, cLen_mk, gI_zero, gI_succ, gB_zero, gB_succ, gS_zero, gS_succ, gL_zero, gL_succ, okI_zero, okI_succ, okB_zero, okB_succ, okS_zero, okS_succ, okL_zero, okL_succ, isIntT_int, isBoolT_bool, isStrT_str, isSlT_sl, intOf_int, boolOf_bool, strOf_str, slOf_sl, treeOf_t, srVer_sref, srOff_sref, srLen_sref, ver_row, esOf_row, cellOf_box, List.getD_cons_zero, List.getD_cons_succ, decide_true, decide_false, cnd_true, cnd_false, true_and, and_true, false_and, and_false, Option.bind_some, Option.bind_none, List.length_cons, List.length_nil, List.length_map, List.getElem?_map, Option.map_some, Option.map_none, Int.toNat_natCast, reduceCtorEq, eq_self, if_true, if_false, Nat.zero_add, Nat.reduceAdd, Nat.reduceEqDiff, Int.natCast_nonneg, List.drop_zero, or_true, true_or, or_false, false_or, Bool.not_true, Bool.not_false, Bool.false_eq_true, decide_eq_true_eq, ge_iff_le, gt_iff_lt]
    rw [cnd_pos (by simp [h0])]
    simp [addL, addC, h0]
/-! ### Block -/
def cutS (f : Int) (x : Span) : Option Span := if x.to ≤ f then none else some ⟨if x.frm < f then f else x.frm, x.to⟩
theorem gaps_cut {stop f : Int} : ∀ (l : List Span) (lo : Int), Row stop l lo → (gapsR stop l lo).filterMap (cutS f) = gapsL stop l (if lo < f then f else lo)
  | [], lo, h => by
    unfold gapsR gapsL
    unfold Row at h
    by_cases h1 : lo < stop
    · simp only [h1, if_true, List.filterMap_cons, List.filterMap_nil, cutS]
      by_cases h2 : stop ≤ f
      · simp only [h2, if_true]
        rw [if_neg (by split <;> omega)]
      · have : (if lo < f then f else lo) < stop := by split <;> omega
        simp only [h2, if_false, this, if_true]
    · simp only [h1, if_false, List.filterMap_nil]
      rw [if_neg (by split <;> omega)]
  | x :: l, lo, h => by
    obtain ⟨h1, h2, h3⟩ := h
    have ih := gaps_cut (f := f) l x.to h3
    unfold gapsR gapsL
    rw [List.filterMap_append, ih]
    congr 1
    · by_cases h4 : lo < x.frm
      · simp only [h4, if_true, List.filterMap_cons, List.filterMap_nil, cutS]
        by_cases h5 : x.frm ≤ f
        · simp only [h5, if_true]
          rw [if_neg (by split <;> omega)]
        · have : (if lo < f then f else lo) < x.frm := by split <;> omega
          simp only [h5, if_false, this, if_true]
      · simp only [h4, if_false, List.filterMap_nil]
        rw [if_neg (by split <;> omega)]
    · congr 1
      grind
def bk (k : Int) (g : Span) : Booking := ⟨k, g.frm, g.to, 0⟩
def blk (k : Int) (l : List Booking) (gs : List Span) : List Booking := gs.foldl (fun cur g => bIns cur (bk k g)) l
/-- What the next gaps ask of the bookings so far. -/
def GInv (cs : List Contact) (k : Int) (cur : List Booking) (rest : List Span) : Prop :=
  BookOk cs cur ∧ (∀ g ∈ rest, validB cs (bk k g) = true ∧ ovl cur (bk k g) = false) ∧ rest.Pairwise fun a b => a.to ≤ b.frm
theorem ovl_ins {l : List Booking} {b g : Booking} (h : ovl l g = false) (hb : b.contact = g.contact → g.stop ≤ b.beg ∨ b.stop ≤ g.beg) : ovl (bIns l b) g = false := by
  unfold ovl
  rw [List.any_eq_false]
  intro x hx
  simp only [decide_eq_true_eq]
  rcases (insB_mem _ b l x).1 hx with rfl | hx
  · intro hc
    have := hb hc.1
    omega
  · intro hc
    have := ovl_false h hx hc.1
    omega
theorem GInv.step {cs : List Contact} {k : Int} {cur : List Booking} {g : Span} {rest : List Span} (h : GInv cs k cur (g :: rest)) : GInv cs k (bIns cur (bk k g)) rest := by
  obtain ⟨h1, h2, h3⟩ := h
  rw [List.pairwise_cons] at h3
  have hg := h2 g (by simp)
  refine ⟨ins_ok h1 hg.1 hg.2, fun x hx => ?_, h3.2⟩
  have hx2 := h2 x (by simp [hx])
  exact ⟨hx2.1, ovl_ins hx2.2 fun _ => .inr (h3.1 x hx)⟩
theorem blk_len (k : Int) : ∀ (gs : List Span) (l : List Booking), (blk k l gs).length = l.length + gs.length
  | [], l => rfl
  | g :: gs, l => by
    show (blk k (bIns l (bk k g)) gs).length = _
    rw [blk_len k gs, bIns, insB_len, List.length_cons]
    omega
theorem gapsL_apart {stop : Int} : ∀ (l : List Span) (lo at_ : Int), Row stop l lo → lo ≤ at_ → (gapsL stop l at_).Pairwise fun a b => a.to ≤ b.frm
  | [], lo, at_, _, _ => by
    unfold gapsL
    split <;> simp
  | x :: l, lo, at_, ⟨h1, h2, h3⟩, hle => by
    unfold gapsL
    have hn : x.to ≤ (if at_ < x.to then x.to else at_) := by split <;> omega
    have ih := gapsL_apart l x.to (if at_ < x.to then x.to else at_) h3 hn
    split
    · rw [List.singleton_append, List.pairwise_cons]
      refine ⟨fun y hy => ?_, ih⟩
      have := gapsL_mem l x.to _ h3 hn y hy
      show x.frm ≤ y.frm
      omega
    · simpa using ih
theorem gapsL_free {stop : Int} : ∀ (l : List Span) (lo at_ : Int), Row stop l lo → lo ≤ at_ → ∀ g ∈ gapsL stop l at_, ∀ x ∈ l, x.to ≤ g.frm ∨ g.to ≤ x.frm
  | [], lo, at_, _, _, g, hg, x, hx => by simp at hx
  | y :: l, lo, at_, ⟨h1, h2, h3⟩, hle, g, hg, x, hx => by
    have hn : y.to ≤ (if at_ < y.to then y.to else at_) := by split <;> omega
    unfold gapsL at hg
    rw [List.mem_append] at hg
    rcases hg with hg | hg
    · split at hg
      · simp only [List.mem_singleton] at hg
        subst hg
        rcases List.mem_cons.1 hx with rfl | hx
        · exact .inr (Int.le_refl _)
        · refine .inr ?_
          show y.frm ≤ x.frm
          have : ∀ (l : List Span) (lo : Int), Row stop l lo → ∀ x ∈ l, lo ≤ x.frm := by
            intro l
            induction l with
            | nil => intro lo _ x hx; simp at hx
            | cons z l ih =>
              intro lo hr x hx
              obtain ⟨r1, r2, r3⟩ := hr
              rcases List.mem_cons.1 hx with rfl | hx
              · exact r1
              · have := ih z.to r3 x hx
                omega
          have := this l y.to h3 x hx
          omega
      · simp at hg
    · rcases List.mem_cons.1 hx with rfl | hx
      · have := gapsL_mem l x.to _ h3 hn g hg
        exact .inl (by omega)
      · exact gapsL_free l y.to _ h3 hn g hg x hx
theorem busy_mem {l : List Booking} {k : Int} {x : Booking} (hx : x ∈ l) (hk : x.contact = k) : (⟨x.beg, x.stop⟩ : Span) ∈ busy l k := by
  unfold busy
  rw [List.mem_filterMap]
  exact ⟨x, hx, by simp [hk]⟩
theorem ginv_start {cs : List Contact} {l : List Booking} {k f : Int} {c : Contact} (h : BookOk cs l) (hk : 0 ≤ k ∧ k < cs.length) (hc : cs[k.toNat]? = some c) (hcc : contactCheck c = 0) : GInv cs k l (gapsL c.stop (busy l k) (if c.start < f then f else c.start)) := by
  have hrow := busy_row h hc hcc
  have hle : c.start ≤ (if c.start < f then f else c.start) := by split <;> omega
  refine ⟨h, fun g hg => ?_, gapsL_apart _ _ _ hrow hle⟩
  have hm := gapsL_mem _ _ _ hrow hle g hg
  refine ⟨?_, ?_⟩
  · unfold validB bk
    rw [if_neg (by simp only; omega)]
    simp only [hc, decide_eq_true_eq]
    omega
  · unfold ovl
    rw [List.any_eq_false]
    intro x hx
    simp only [decide_eq_true_eq]
    rintro ⟨c1, c2, c3⟩
    simp only [bk] at c1 c2 c3
    have := gapsL_free _ _ _ hrow hle g hg _ (busy_mem hx c1)
    simp only at this
    omega
def blkC (q : List Int) (cs : List Contact) (l : List Booking) (k f : Int) : Int :=
  if ckCheck q cs l k ≠ 0 then ckCheck q cs l k else match cs[k.toNat]? with
    | none => 0
    | some c => if l.length + (gapsL c.stop (busy l k) (if c.start < f then f else c.start)).length > 512 then 4 else 0
def blkL (q : List Int) (cs : List Contact) (l : List Booking) (k f : Int) : List Booking :=
  if blkC q cs l k f ≠ 0 then [] else match cs[k.toNat]? with
    | none => []
    | some c => blk k l (gapsL c.stop (busy l k) (if c.start < f then f else c.start))
theorem s27 (q : List Int) (cs : List Contact) (l : List Booking) (k f : Int) :
    Runs C 27 [.sl 1 (q.map encI), .sl 7 (cs.map Contact.enc), .sl 4 (l.map Booking.enc), tI k, tI f] [.sl 4 ((blkL q cs l k f).map Booking.enc), tI (blkC q cs l k f)] := by
  refine Runs.of (fun n => e27 n _ _ _ _ _) ?_
  by_cases h0 : ckCheck q cs l k = 0
  · obtain ⟨c, hc, hk0, hk1, hcc, hbo, hlen⟩ := ck_ok h0
    have hgi := ginv_start (f := f) hbo ⟨hk0, hk1⟩ hc hcc
    have hgl := gapsL_len c.stop (busy l k) (if c.start < f then f else c.start)
    have hbl := busy_len l k
    have s40' := s40 q cs l k f c hk0 hc (by omega)
    have eC : blkC q cs l k f = if l.length + (gapsL c.stop (busy l k) (if c.start < f then f else c.start)).length > 512 then 4 else 0 := by simp [blkC, h0, hc]
    have eL : blkL q cs l k f = if l.length + (gapsL c.stop (busy l k) (if c.start < f then f else c.start)).length > 512 then [] else blk k l (gapsL c.stop (busy l k) (if c.start < f then f else c.start)) := by
      unfold blkL
      rw [eC, hc]
      dsimp only
      generalize gapsL c.stop (busy l k) (if c.start < f then f else c.start) = gs
      by_cases h : l.length + gs.length > 512
      · simp [h]
      · simp [h]
    rw [eC, eL]
    generalize gapsL c.stop (busy l k) (if c.start < f then f else c.start) = gs at *
    have hw : w64 ((l.length : Int) + (gs.length : Int)) = ((l.length + gs.length : Nat) : Int) := by rw [w64_id (by omega) (by omega)]; omega
    by_cases hbig : l.length + gs.length > 512
    · refine ((s39 q cs l k).and s40').mono fun n h => ?_
      simp only [h.1, h.2, vI_mk, vB_mk, vS_mk, vL_mk, sVer_mk, sOff_mk, sLen_mk, oVer_mk, oEs_mk, cI_mk, cB_mk, cS_mk, cL_mk, cVer_mk, cOff_mk, cLen_mk, gI_zero, gI_succ, gB_zero, gB_succ, gS_zero, gS_succ, gL_zero, gL_succ, okI_zero, okI_succ, okB_zero, okB_succ, okS_zero, okS_succ, okL_zero, okL_succ, isIntT_int, isBoolT_bool, isStrT_str, isSlT_sl, intOf_int, boolOf_bool, strOf_str, slOf_sl, treeOf_t, srVer_sref, srOff_sref, srLen_sref, ver_row, esOf_row, cellOf_box, List.getD_cons_zero, List.getD_cons_succ, decide_true, decide_false, cnd_true, cnd_false, true_and, and_true, false_and, and_false, Option.bind_some, Option.bind_none, List.length_cons, List.length_nil, List.length_map, List.getElem?_map, Option.map_some, Option.map_none, Int.toNat_natCast, reduceCtorEq, eq_self, if_true, if_false, Nat.zero_add, Nat.reduceAdd, Nat.reduceEqDiff, Int.natCast_nonneg, List.drop_zero, or_true, true_or, or_false, false_or, Bool.not_true, Bool.not_false, Bool.false_eq_true, decide_eq_true_eq, ge_iff_le, gt_iff_lt, h0, bne_self_eq_false, hw, hbig, (show (512 : Int) < ((l.length + gs.length : Nat) : Int) by omega), List.map_nil]
    · simp only [hbig, if_false]
      refine Ev.rw (T' := ?TT) ((s39 q cs l k).and s40') (fun n h => ?g1) ?g2
      case g1 =>
        simp only [h.1, h.2, vI_mk, vB_mk, vS_mk, vL_mk, sVer_mk, sOff_mk, sLen_mk, oVer_mk, oEs_mk, cI_mk, cB_mk, cS_mk, cL_mk, cVer_mk, cOff_mk, cLen_mk, gI_zero, gI_succ, gB_zero, gB_succ, gS_zero, gS_succ, gL_zero, gL_succ, okI_zero, okI_succ, okB_zero, okB_succ, okS_zero, okS_succ, okL_zero, okL_succ, isIntT_int, isBoolT_bool, isStrT_str, isSlT_sl, intOf_int, boolOf_bool, strOf_str, slOf_sl, treeOf_t, srVer_sref, srOff_sref, srLen_sref, ver_row, esOf_row, cellOf_box, List.getD_cons_zero, List.getD_cons_succ, decide_true, decide_false, cnd_true, cnd_false, true_and, and_true, false_and, and_false, Option.bind_some, Option.bind_none, List.length_cons, List.length_nil, List.length_map, List.getElem?_map, Option.map_some, Option.map_none, Int.toNat_natCast, reduceCtorEq, eq_self, if_true, if_false, Nat.zero_add, Nat.reduceAdd, Nat.reduceEqDiff, Int.natCast_nonneg, List.drop_zero, or_true, true_or, or_false, false_or, Bool.not_true, Bool.not_false, Bool.false_eq_true, decide_eq_true_eq, ge_iff_le, gt_iff_lt, h0, bne_self_eq_false, hw, (show ¬ (512 : Int) < ((l.length + gs.length : Nat) : Int) by omega)]
        rfl
      case g2 =>
        refine loop_overQ (fun (r : List Booking) => [Tree.sl 4 (r.map Booking.enc), tI 0]) gs (fun i (s : List Booking) => (([.t (.sl 4 (s.map Booking.enc)), .t (tI i)], []) : List AV × Heap)) (fun _ s g => .next (bIns s (bk k g))) id (fun i s => GInv cs k s (gs.drop i) ∧ s.length = l.length + i) l rfl ⟨by simpa using hgi, by simp⟩ (runL_fold (fun s g => bIns s (bk k g)) id 0 gs l)
          (fun i s g hx hI => ?_) (fun i s g s' hx hI hs' => ?_) (fun s hI => Ev.of fun n again => ?_)
        · have hi := lt_of_some hx
          refine (s54 s (bk k g) (down_of hI.1.1 _) (by omega)).mono fun n h again => ?_
          simp only [bk] at h
          simp only [vI_mk, vB_mk, vS_mk, vL_mk, sVer_mk, sOff_mk, sLen_mk, oVer_mk, oEs_mk, cI_mk, cB_mk, cS_mk, cL_mk, cVer_mk, cOff_mk, cLen_mk, gI_zero, gI_succ, gB_zero, gB_succ, gS_zero, gS_succ, gL_zero, gL_succ, okI_zero, okI_succ, okB_zero, okB_succ, okS_zero, okS_succ, okL_zero, okL_succ, isIntT_int, isBoolT_bool, isStrT_str, isSlT_sl, intOf_int, boolOf_bool, strOf_str, slOf_sl, treeOf_t, srVer_sref, srOff_sref, srLen_sref, ver_row, esOf_row, cellOf_box, List.getD_cons_zero, List.getD_cons_succ, decide_true, decide_false, cnd_true, cnd_false, true_and, and_true, false_and, and_false, Option.bind_some, Option.bind_none, List.length_cons, List.length_nil, List.length_map, List.getElem?_map, Option.map_some, Option.map_none, Int.toNat_natCast, reduceCtorEq, eq_self, if_true, if_false, Nat.zero_add, Nat.reduceAdd, Nat.reduceEqDiff, Int.natCast_nonneg, List.drop_zero, or_true, true_or, or_false, false_or, Bool.not_true, Bool.not_false, Bool.false_eq_true, decide_eq_true_eq, ge_iff_le, gt_iff_lt, hx, Span.enc, h, (show (i : Int) < gs.length by omega), w64_succ (show i < 4611686018427387904 by omega), Rd.go_next, bIns, bk]
        · have hi := lt_of_some hx
          simp only [Rd.next.injEq] at hs'
          subst hs'
          have hd : gs.drop i = g :: gs.drop (i + 1) := by
            rw [List.drop_eq_getElem_cons hi]
            rw [List.getElem?_eq_getElem hi] at hx
            rw [Option.some.inj hx]
          rw [hd] at hI
          exact ⟨hI.1.step, by rw [bIns, insB_len, hI.2]; omega⟩
        · simp only [vI_mk, vB_mk, vS_mk, vL_mk, sVer_mk, sOff_mk, sLen_mk, oVer_mk, oEs_mk, cI_mk, cB_mk, cS_mk, cL_mk, cVer_mk, cOff_mk, cLen_mk, gI_zero, gI_succ, gB_zero, gB_succ, gS_zero, gS_succ, gL_zero, gL_succ, okI_zero, okI_succ, okB_zero, okB_succ, okS_zero, okS_succ, okL_zero, okL_succ, isIntT_int, isBoolT_bool, isStrT_str, isSlT_sl, intOf_int, boolOf_bool, strOf_str, slOf_sl, treeOf_t, srVer_sref, srOff_sref, srLen_sref, ver_row, esOf_row, cellOf_box, List.getD_cons_zero, List.getD_cons_succ, decide_true, decide_false, cnd_true, cnd_false, true_and, and_true, false_and, and_false, Option.bind_some, Option.bind_none, List.length_cons, List.length_nil, List.length_map, List.getElem?_map, Option.map_some, Option.map_none, Int.toNat_natCast, reduceCtorEq, eq_self, if_true, if_false, Nat.zero_add, Nat.reduceAdd, Nat.reduceEqDiff, Int.natCast_nonneg, List.drop_zero, or_true, true_or, or_false, false_or, Bool.not_true, Bool.not_false, Bool.false_eq_true, decide_eq_true_eq, ge_iff_le, gt_iff_lt, Int.lt_irrefl, id]
  · refine (s39 q cs l k).mono fun n h => ?_
    simp only [h, vI_mk, vB_mk, vS_mk, vL_mk, sVer_mk, sOff_mk, sLen_mk, oVer_mk, oEs_mk, cI_mk, cB_mk, cS_mk, cL_mk, cVer_mk, cOff_mk, cLen_mk, gI_zero, gI_succ, gB_zero, gB_succ, gS_zero, gS_succ, gL_zero, gL_succ, okI_zero, okI_succ, okB_zero, okB_succ, okS_zero, okS_succ, okL_zero, okL_succ, isIntT_int, isBoolT_bool, isStrT_str, isSlT_sl, intOf_int, boolOf_bool, strOf_str, slOf_sl, treeOf_t, srVer_sref, srOff_sref, srLen_sref, ver_row, esOf_row, cellOf_box, List.getD_cons_zero, List.getD_cons_succ, decide_true, decide_false, cnd_true, cnd_false, true_and, and_true, false_and, and_false, Option.bind_some, Option.bind_none, List.length_cons, List.length_nil, List.length_map, List.getElem?_map, Option.map_some, Option.map_none, Int.toNat_natCast, reduceCtorEq, eq_self, if_true, if_false, Nat.zero_add, Nat.reduceAdd, Nat.reduceEqDiff, Int.natCast_nonneg, List.drop_zero, or_true, true_or, or_false, false_or, Bool.not_true, Bool.not_false, Bool.false_eq_true, decide_eq_true_eq, ge_iff_le, gt_iff_lt]
    rw [cnd_pos (by simp [h0])]
    simp [blkL, blkC, h0]
theorem s31 (q : List Int) (cs : List Contact) (l : List Booking) (k f : Int) :
    Runs C 31 [.sl 1 (q.map encI), .sl 7 (cs.map Contact.enc), .sl 4 (l.map Booking.enc), tI k, tI f] [.sl 4 ((blkL q cs l k f).map Booking.enc), tI (blkC q cs l k f)] := by
  refine Runs.of (fun n => e31 n _ _ _ _ _) ?_
  by_cases h0 : ckCheck q cs l k = 0
  · obtain ⟨c, hc, hk0, hk1, hcc, hbo, hlen⟩ := ck_ok h0
    have hgi := ginv_start (f := f) hbo ⟨hk0, hk1⟩ hc hcc
    have hgl := gapsR_len c.stop (busy l k) c.start
    have hbl := busy_len l k
    have s43' := s43 q cs l k c hk0 hc (by omega)
    have hcut := gaps_cut (f := f) _ _ (busy_row hbo hc hcc)
    have eC : blkC q cs l k f = if l.length + (gapsL c.stop (busy l k) (if c.start < f then f else c.start)).length > 512 then 4 else 0 := by simp [blkC, h0, hc]
    have eL : blkL q cs l k f = if l.length + (gapsL c.stop (busy l k) (if c.start < f then f else c.start)).length > 512 then [] else blk k l (gapsL c.stop (busy l k) (if c.start < f then f else c.start)) := by
      unfold blkL
      rw [eC, hc]
      dsimp only
      generalize gapsL c.stop (busy l k) (if c.start < f then f else c.start) = gs
      by_cases h : l.length + gs.length > 512
      · simp [h]
      · simp [h]
    have hr : [Tree.sl 4 ((blkL q cs l k f).map Booking.enc), tI (blkC q cs l k f)] = (fun (r : List Booking) => if r.length > 512 then [Tree.sl 4 [], tI 4] else [Tree.sl 4 (r.map Booking.enc), tI 0]) (blk k l (gapsL c.stop (busy l k) (if c.start < f then f else c.start))) := by
      simp only [eC, eL, blk_len]
      generalize gapsL c.stop (busy l k) (if c.start < f then f else c.start) = gs
      by_cases h : l.length + gs.length > 512
      · simp [h]
      · simp [h]
    rw [hr, ← hcut]
    rw [← hcut] at hgi
    generalize gapsR c.stop (busy l k) c.start = gs at *
    refine Ev.rw (T' := ?TT) ((s41 q cs l k).and s43') (fun n h => ?g1) ?g2
    case g1 =>
      simp only [h.1, h.2, vI_mk, vB_mk, vS_mk, vL_mk, sVer_mk, sOff_mk, sLen_mk, oVer_mk, oEs_mk, cI_mk, cB_mk, cS_mk, cL_mk, cVer_mk, cOff_mk, cLen_mk, gI_zero, gI_succ, gB_zero, gB_succ, gS_zero, gS_succ, gL_zero, gL_succ, okI_zero, okI_succ, okB_zero, okB_succ, okS_zero, okS_succ, okL_zero, okL_succ, isIntT_int, isBoolT_bool, isStrT_str, isSlT_sl, intOf_int, boolOf_bool, strOf_str, slOf_sl, treeOf_t, srVer_sref, srOff_sref, srLen_sref, ver_row, esOf_row, cellOf_box, List.getD_cons_zero, List.getD_cons_succ, decide_true, decide_false, cnd_true, cnd_false, true_and, and_true, false_and, and_false, Option.bind_some, Option.bind_none, List.length_cons, List.length_nil, List.length_map, List.getElem?_map, Option.map_some, Option.map_none, Int.toNat_natCast, reduceCtorEq, eq_self, if_true, if_false, Nat.zero_add, Nat.reduceAdd, Nat.reduceEqDiff, Int.natCast_nonneg, List.drop_zero, or_true, true_or, or_false, false_or, Bool.not_true, Bool.not_false, Bool.false_eq_true, decide_eq_true_eq, ge_iff_le, gt_iff_lt, h0, bne_self_eq_false]
      rfl
    case g2 =>
      refine loop_overQ (fun (r : List Booking) => if r.length > 512 then [Tree.sl 4 [], tI 4] else [Tree.sl 4 (r.map Booking.enc), tI 0]) gs (fun i (s : List Booking) => (([.t (.sl 4 (s.map Booking.enc)), .t (tI i)], []) : List AV × Heap)) (fun _ s x => .next (match cutS f x with | some g => bIns s (bk k g) | none => s)) id (fun i s => GInv cs k s ((gs.drop i).filterMap (cutS f)) ∧ s.length ≤ l.length + i) l rfl ⟨by simpa using hgi, by simp⟩ (by rw [runL_fold, id, blk, List.foldl_filterMap]; congr 1; funext s x; cases cutS f x <;> rfl)
        (fun i s g hx hI => ?_) (fun i s g s' hx hI hs' => ?_) (fun s hI => Ev.of fun n again => ?_)
      · have hi := lt_of_some hx
        have hd : gs.drop i = g :: gs.drop (i + 1) := by
          rw [List.drop_eq_getElem_cons hi]
          rw [List.getElem?_eq_getElem hi] at hx
          rw [Option.some.inj hx]
        by_cases hcf : g.to ≤ f
        · refine Ev.of fun n again => ?_
          simp only [vI_mk, vB_mk, vS_mk, vL_mk, sVer_mk, sOff_mk, sLen_mk, oVer_mk, oEs_mk, cI_mk, cB_mk, cS_mk, cL_mk, cVer_mk, cOff_mk, cLen_mk, gI_zero, gI_succ, gB_zero, gB_succ, gS_zero, gS_succ, gL_zero, gL_succ, okI_zero, okI_succ, okB_zero, okB_succ, okS_zero, okS_succ, okL_zero, okL_succ, isIntT_int, isBoolT_bool, isStrT_str, isSlT_sl, intOf_int, boolOf_bool, strOf_str, slOf_sl, treeOf_t, srVer_sref, srOff_sref, srLen_sref, ver_row, esOf_row, cellOf_box, List.getD_cons_zero, List.getD_cons_succ, decide_true, decide_false, cnd_true, cnd_false, true_and, and_true, false_and, and_false, Option.bind_some, Option.bind_none, List.length_cons, List.length_nil, List.length_map, List.getElem?_map, Option.map_some, Option.map_none, Int.toNat_natCast, reduceCtorEq, eq_self, if_true, if_false, Nat.zero_add, Nat.reduceAdd, Nat.reduceEqDiff, Int.natCast_nonneg, List.drop_zero, or_true, true_or, or_false, false_or, Bool.not_true, Bool.not_false, Bool.false_eq_true, decide_eq_true_eq, ge_iff_le, gt_iff_lt, hx, Span.enc, hcf, (show (i : Int) < gs.length by omega), w64_succ (show i < 4611686018427387904 by omega), Rd.go_next, cutS]
        · have hcs : cutS f g = some ⟨if g.frm < f then f else g.frm, g.to⟩ := by simp [cutS, hcf]
          rw [hd, List.filterMap_cons_some hcs] at hI
          obtain ⟨⟨hI1, hI2, hI3⟩, hI4⟩ := hI
          have hg := hI2 _ (List.mem_cons_self)
          have := s56 s (bk k ⟨if g.frm < f then f else g.frm, g.to⟩) (by omega)
          rw [ins_same hI1 hg.1 hg.2] at this
          refine this.mono fun n h again => ?_
          simp only [bk] at h
          by_cases hf : g.frm < f
          · simp only [hf, if_true] at h
            simp only [vI_mk, vB_mk, vS_mk, vL_mk, sVer_mk, sOff_mk, sLen_mk, oVer_mk, oEs_mk, cI_mk, cB_mk, cS_mk, cL_mk, cVer_mk, cOff_mk, cLen_mk, gI_zero, gI_succ, gB_zero, gB_succ, gS_zero, gS_succ, gL_zero, gL_succ, okI_zero, okI_succ, okB_zero, okB_succ, okS_zero, okS_succ, okL_zero, okL_succ, isIntT_int, isBoolT_bool, isStrT_str, isSlT_sl, intOf_int, boolOf_bool, strOf_str, slOf_sl, treeOf_t, srVer_sref, srOff_sref, srLen_sref, ver_row, esOf_row, cellOf_box, List.getD_cons_zero, List.getD_cons_succ, decide_true, decide_false, cnd_true, cnd_false, true_and, and_true, false_and, and_false, Option.bind_some, Option.bind_none, List.length_cons, List.length_nil, List.length_map, List.getElem?_map, Option.map_some, Option.map_none, Int.toNat_natCast, reduceCtorEq, eq_self, if_true, if_false, Nat.zero_add, Nat.reduceAdd, Nat.reduceEqDiff, Int.natCast_nonneg, List.drop_zero, or_true, true_or, or_false, false_or, Bool.not_true, Bool.not_false, Bool.false_eq_true, decide_eq_true_eq, ge_iff_le, gt_iff_lt, hx, Span.enc, hcf, hf, h, (show (i : Int) < gs.length by omega), w64_succ (show i < 4611686018427387904 by omega), Rd.go_next, cutS, bk]
          · simp only [hf, if_false] at h
            simp only [vI_mk, vB_mk, vS_mk, vL_mk, sVer_mk, sOff_mk, sLen_mk, oVer_mk, oEs_mk, cI_mk, cB_mk, cS_mk, cL_mk, cVer_mk, cOff_mk, cLen_mk, gI_zero, gI_succ, gB_zero, gB_succ, gS_zero, gS_succ, gL_zero, gL_succ, okI_zero, okI_succ, okB_zero, okB_succ, okS_zero, okS_succ, okL_zero, okL_succ, isIntT_int, isBoolT_bool, isStrT_str, isSlT_sl, intOf_int, boolOf_bool, strOf_str, slOf_sl, treeOf_t, srVer_sref, srOff_sref, srLen_sref, ver_row, esOf_row, cellOf_box, List.getD_cons_zero, List.getD_cons_succ, decide_true, decide_false, cnd_true, cnd_false, true_and, and_true, false_and, and_false, Option.bind_some, Option.bind_none, List.length_cons, List.length_nil, List.length_map, List.getElem?_map, Option.map_some, Option.map_none, Int.toNat_natCast, reduceCtorEq, eq_self, if_true, if_false, Nat.zero_add, Nat.reduceAdd, Nat.reduceEqDiff, Int.natCast_nonneg, List.drop_zero, or_true, true_or, or_false, false_or, Bool.not_true, Bool.not_false, Bool.false_eq_true, decide_eq_true_eq, ge_iff_le, gt_iff_lt, hx, Span.enc, hcf, hf, h, (show (i : Int) < gs.length by omega), w64_succ (show i < 4611686018427387904 by omega), Rd.go_next, cutS, bk]
      · have hi := lt_of_some hx
        simp only [Rd.next.injEq] at hs'
        subst hs'
        have hd : gs.drop i = g :: gs.drop (i + 1) := by
          rw [List.drop_eq_getElem_cons hi]
          rw [List.getElem?_eq_getElem hi] at hx
          rw [Option.some.inj hx]
        rw [hd] at hI
        cases hcs : cutS f g with
        | none => rw [List.filterMap_cons_none hcs] at hI; exact ⟨hI.1, by have := hI.2; simp only; omega⟩
        | some g' =>
          rw [List.filterMap_cons_some hcs] at hI
          exact ⟨hI.1.step, by have := hI.2; simp only; rw [bIns, insB_len]; omega⟩
      · simp only [vI_mk, vB_mk, vS_mk, vL_mk, sVer_mk, sOff_mk, sLen_mk, oVer_mk, oEs_mk, cI_mk, cB_mk, cS_mk, cL_mk, cVer_mk, cOff_mk, cLen_mk, gI_zero, gI_succ, gB_zero, gB_succ, gS_zero, gS_succ, gL_zero, gL_succ, okI_zero, okI_succ, okB_zero, okB_succ, okS_zero, okS_succ, okL_zero, okL_succ, isIntT_int, isBoolT_bool, isStrT_str, isSlT_sl, intOf_int, boolOf_bool, strOf_str, slOf_sl, treeOf_t, srVer_sref, srOff_sref, srLen_sref, ver_row, esOf_row, cellOf_box, List.getD_cons_zero, List.getD_cons_succ, decide_true, decide_false, cnd_true, cnd_false, true_and, and_true, false_and, and_false, Option.bind_some, Option.bind_none, List.length_cons, List.length_nil, List.length_map, List.getElem?_map, Option.map_some, Option.map_none, Int.toNat_natCast, reduceCtorEq, eq_self, if_true, if_false, Nat.zero_add, Nat.reduceAdd, Nat.reduceEqDiff, Int.natCast_nonneg, List.drop_zero, or_true, true_or, or_false, false_or, Bool.not_true, Bool.not_false, Bool.false_eq_true, decide_eq_true_eq, ge_iff_le, gt_iff_lt, Int.lt_irrefl, id]
        by_cases h : s.length > 512
        · rw [cnd_pos (by omega), if_pos h]
        · rw [cnd_neg (by omega), if_neg h]
  · refine (s41 q cs l k).mono fun n h => ?_
    simp only [h, vI_mk, vB_mk, vS_mk, vL_mk, sVer_mk, sOff_mk, sLen_mk, oVer_mk, oEs_mk, cI_mk, cB_mk, cS_mk, cL_mk, cVer_mk, cOff_mk, cLen_mk, gI_zero, gI_succ, gB_zero, gB_succ, gS_zero, gS_succ, gL_zero, gL_succ, okI_zero, okI_succ, okB_zero, okB_succ, okS_zero, okS_succ, okL_zero, okL_succ, isIntT_int, isBoolT_bool, isStrT_str, isSlT_sl, intOf_int, boolOf_bool, strOf_str, slOf_sl, treeOf_t, srVer_sref, srOff_sref, srLen_sref, ver_row, esOf_row, cellOf_box, List.getD_cons_zero, List.getD_cons_succ, decide_true, decide_false, cnd_true, cnd_false, true_and, and_true, false_and, and_false, Option.bind_some, Option.bind_none, List.length_cons, List.length_nil, List.length_map, List.getElem?_map, Option.map_some, Option.map_none, Int.toNat_natCast, reduceCtorEq, eq_self, if_true, if_false, Nat.zero_add, Nat.reduceAdd, Nat.reduceEqDiff, Int.natCast_nonneg, List.drop_zero, or_true, true_or, or_false, false_or, Bool.not_true, Bool.not_false, Bool.false_eq_true, decide_eq_true_eq, ge_iff_le, gt_iff_lt]
    rw [cnd_pos (by simp [h0])]
    simp [blkL, blkC, h0]
end Ab
