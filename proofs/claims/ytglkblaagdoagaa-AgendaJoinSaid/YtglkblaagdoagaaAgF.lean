/- Agenda: the law Sets. -/
import Derived.Test.YtglkblaagdoagaaAgE
set_option linter.unusedVariables false
set_option linter.unusedSimpArgs false
namespace Ab
open Go

/-- A good agenda of at most m events. -/
def GoodA (m : Nat) (l : List Event) : Prop := l.length ≤ m ∧ (∀ e ∈ l, validE e = true) ∧ Srt l
theorem good_check {m : Nat} {l : List Event} (hm : m ≤ 1000) (h : GoodA m l) : agCheck l = 0 := (ag_srt l).2 ⟨by have := h.1; omega, h.2.1, h.2.2⟩
theorem good_insr {m : Nat} {l : List Event} {e : Event} (h : GoodA m l) (hv : validE e = true) (hn : e ∉ l) : GoodA (m + 1) (insr e l) := by
  refine ⟨by rw [insr_len]; have := h.1; omega, fun x hx => ?_, insr_srt h.2.2 hn⟩
  rcases (insr_mem e l x).1 hx with rfl | hx
  · exact hv
  · exact h.2.1 x hx
theorem good_ref {m : Nat} {l : List Event} {e : Event} (h : GoodA m l) (hv : validE e = true) : GoodA (m + 1) (refIns l e) := by
  unfold refIns
  split
  · exact ⟨by have := h.1; omega, h.2.1, h.2.2⟩
  · rename_i hn
    rw [insR_eq hn]
    exact good_insr h hv hn
theorem remv_insr {l : List Event} {e : Event} (hs : Srt l) (hn : e ∉ l) : remv e (insr e l) = l := by
  refine srt_ext (remv_srt (insr_srt hs hn)) hs fun x => ?_
  rw [remv_mem, insr_mem]
  constructor
  · rintro ⟨h | h, h2⟩
    · exact absurd h h2
    · exact h
  · intro h
    exact ⟨.inr h, fun he => hn (he ▸ h)⟩
theorem add_new {m : Nat} {l : List Event} {e : Event} (hm : m < 1000) (h : GoodA m l) (hv : validE e = true) (hn : e ∉ l) : addC l e = 0 ∧ addL l e = insr e l := by
  have hc := good_check (by omega) h
  have hl := h.1
  have : addC l e = 0 := by unfold addC; simp [hc, hv, hn]; omega
  exact ⟨this, by simp [addL, this]⟩
theorem add_old {m : Nat} {l : List Event} {e : Event} (hm : m < 1000) (h : GoodA m l) (hv : validE e = true) (hn : e ∈ l) : addC l e = 6 := by
  have hc := good_check (by omega) h
  unfold addC; simp [hc, hv, hn]
theorem rem_new {m : Nat} {l : List Event} {e : Event} (hm : m < 1000) (h : GoodA m l) (hv : validE e = true) (hn : e ∉ l) : remC (insr e l) e = 0 ∧ remL (insr e l) e = l := by
  have hc := good_check (by omega) (good_insr h hv hn)
  have : remC (insr e l) e = 0 := by unfold remC; simp [hc, insr_mem]
  exact ⟨this, by simp [remL, this, remv_insr h.2.2 hn]⟩
theorem s32 (e : Event) : Runs C 32 e.enc [.bool (!validE e)] := by
  refine Runs.of (fun n => e32 n _ _ _) ?_
  refine (s33 e).mono fun n h => ?_
  simp only [Event.enc] at h
  simp only [h, vI_mk, vB_mk, vS_mk, vL_mk, sVer_mk, sOff_mk, sLen_mk, oVer_mk, oEs_mk, cI_mk, cB_mk, cS_mk, cL_mk, cVer_mk, cOff_mk, cLen_mk, gI_zero, gI_succ, gB_zero, gB_succ, gS_zero, gS_succ, gL_zero, gL_succ, okI_zero, okI_succ, okB_zero, okB_succ, okS_zero, okS_succ, okL_zero, okL_succ, isIntT_int, isBoolT_bool, isStrT_str, isSlT_sl, intOf_int, boolOf_bool, strOf_str, slOf_sl, treeOf_t, srVer_sref, srOff_sref, srLen_sref, ver_row, esOf_row, cellOf_box, List.getD_cons_zero, List.getD_cons_succ, decide_true, decide_false, cnd_true, cnd_false, true_and, and_true, false_and, and_false, Option.bind_some, Option.bind_none, List.length_cons, List.length_nil, List.length_map, List.getElem?_map, Option.map_some, Option.map_none, Int.toNat_natCast, reduceCtorEq, eq_self, if_true, if_false, Nat.zero_add, Nat.reduceAdd, Nat.reduceEqDiff, Int.natCast_nonneg, List.drop_zero, or_true, true_or, or_false, false_or, Bool.not_true, Bool.not_false, Bool.false_eq_true, decide_eq_true_eq, ge_iff_le, gt_iff_lt]
theorem fold_good : ∀ (l a : List Event) (m : Nat), GoodA m a → (∀ e ∈ l, validE e = true) → GoodA (m + l.length) (l.foldl refIns a) ∧ ∀ x, x ∈ l.foldl refIns a ↔ x ∈ a ∨ x ∈ l
  | [], a, m, h, _ => ⟨h, by simp⟩
  | y :: l, a, m, h, hv => by
    obtain ⟨h1, h2⟩ := fold_good l (refIns a y) (m + 1) (good_ref h (hv y (by simp))) fun e he => hv e (by simp [he])
    refine ⟨by rw [List.length_cons, show m + (l.length + 1) = m + 1 + l.length by omega]; exact h1, fun x => ?_⟩
    rw [List.foldl_cons, h2, refIns_mem, List.mem_cons]
    constructor
    · rintro ((h | h) | h)
      · exact .inr (.inl h)
      · exact .inl h
      · exact .inr (.inr h)
    · rintro (h | h | h)
      · exact .inl (.inr h)
      · exact .inl (.inl h)
      · exact .inr h

theorem law8 (l : List Event) (k : Int) (hk : 0 ≤ k ∧ k ≤ 255) : Runs C 8 [.sl 3 (l.map Event.enc), .int .u8 k] [.bool true] := by
  refine Runs.of (fun n => e8 n _ _) ?_
  simp only [List.length_map, decide_eq_true_eq]
  by_cases h0 : l.length > 40
  · refine s11.mono fun n h => ?_
    rw [cnd_pos (by omega)]
    simp only [h, vI_mk, vB_mk, vS_mk, vL_mk, sVer_mk, sOff_mk, sLen_mk, oVer_mk, oEs_mk, cI_mk, cB_mk, cS_mk, cL_mk, cVer_mk, cOff_mk, cLen_mk, gI_zero, gI_succ, gB_zero, gB_succ, gS_zero, gS_succ, gL_zero, gL_succ, okI_zero, okI_succ, okB_zero, okB_succ, okS_zero, okS_succ, okL_zero, okL_succ, isIntT_int, isBoolT_bool, isStrT_str, isSlT_sl, intOf_int, boolOf_bool, strOf_str, slOf_sl, treeOf_t, srVer_sref, srOff_sref, srLen_sref, ver_row, esOf_row, cellOf_box, List.getD_cons_zero, List.getD_cons_succ, decide_true, decide_false, cnd_true, cnd_false, true_and, and_true, false_and, and_false, Option.bind_some, Option.bind_none, List.length_cons, List.length_nil, List.length_map, List.getElem?_map, Option.map_some, Option.map_none, Int.toNat_natCast, reduceCtorEq, eq_self, if_true, if_false, Nat.zero_add, Nat.reduceAdd, Nat.reduceEqDiff, Int.natCast_nonneg, List.drop_zero, or_true, true_or, or_false, false_or, Bool.not_true, Bool.not_false, Bool.false_eq_true, decide_eq_true_eq, ge_iff_le, gt_iff_lt]
  simp only [cnd_neg (show ¬ ((l.length : Nat) : Int) > 40 by omega)]
  refine loop_overQ (fun (r : Bool) => [Tree.bool r]) l (fun i (s : Unit) => (([.t (tI i)], []) : List AV × Heap)) (fun _ s x => if validE x = true then .next () else .done true) (fun s => true) (fun i s => ∀ (j : Nat) x, j < i → l[j]? = some x → validE x = true) () rfl (fun j x h => by omega) (by rw [runL_all]; simp)
    (fun i s x hx hI => ?_) (fun i s x s' hx hI hs' => ?_) (fun s hI => ?_)
  · have hi := lt_of_some hx
    refine ((s32 x).and s11).mono fun n h again => ?_
    obtain ⟨h1, h2⟩ := h
    simp only [Event.enc] at h1
    cases hv : validE x with
    | true => simp only [vI_mk, vB_mk, vS_mk, vL_mk, sVer_mk, sOff_mk, sLen_mk, oVer_mk, oEs_mk, cI_mk, cB_mk, cS_mk, cL_mk, cVer_mk, cOff_mk, cLen_mk, gI_zero, gI_succ, gB_zero, gB_succ, gS_zero, gS_succ, gL_zero, gL_succ, okI_zero, okI_succ, okB_zero, okB_succ, okS_zero, okS_succ, okL_zero, okL_succ, isIntT_int, isBoolT_bool, isStrT_str, isSlT_sl, intOf_int, boolOf_bool, strOf_str, slOf_sl, treeOf_t, srVer_sref, srOff_sref, srLen_sref, ver_row, esOf_row, cellOf_box, List.getD_cons_zero, List.getD_cons_succ, decide_true, decide_false, cnd_true, cnd_false, true_and, and_true, false_and, and_false, Option.bind_some, Option.bind_none, List.length_cons, List.length_nil, List.length_map, List.getElem?_map, Option.map_some, Option.map_none, Int.toNat_natCast, reduceCtorEq, eq_self, if_true, if_false, Nat.zero_add, Nat.reduceAdd, Nat.reduceEqDiff, Int.natCast_nonneg, List.drop_zero, or_true, true_or, or_false, false_or, Bool.not_true, Bool.not_false, Bool.false_eq_true, decide_eq_true_eq, ge_iff_le, gt_iff_lt, hx, Event.enc, h1, hv, (show (i : Int) < l.length by omega), w64_succ (show i < 4611686018427387904 by omega), Rd.go_next]
    | false =>
      simp only [vI_mk, vB_mk, vS_mk, vL_mk, sVer_mk, sOff_mk, sLen_mk, oVer_mk, oEs_mk, cI_mk, cB_mk, cS_mk, cL_mk, cVer_mk, cOff_mk, cLen_mk, gI_zero, gI_succ, gB_zero, gB_succ, gS_zero, gS_succ, gL_zero, gL_succ, okI_zero, okI_succ, okB_zero, okB_succ, okS_zero, okS_succ, okL_zero, okL_succ, isIntT_int, isBoolT_bool, isStrT_str, isSlT_sl, intOf_int, boolOf_bool, strOf_str, slOf_sl, treeOf_t, srVer_sref, srOff_sref, srLen_sref, ver_row, esOf_row, cellOf_box, List.getD_cons_zero, List.getD_cons_succ, decide_true, decide_false, cnd_true, cnd_false, true_and, and_true, false_and, and_false, Option.bind_some, Option.bind_none, List.length_cons, List.length_nil, List.length_map, List.getElem?_map, Option.map_some, Option.map_none, Int.toNat_natCast, reduceCtorEq, eq_self, if_true, if_false, Nat.zero_add, Nat.reduceAdd, Nat.reduceEqDiff, Int.natCast_nonneg, List.drop_zero, or_true, true_or, or_false, false_or, Bool.not_true, Bool.not_false, Bool.false_eq_true, decide_eq_true_eq, ge_iff_le, gt_iff_lt, hx, Event.enc, h1, h2, hv, (show (i : Int) < l.length by omega), Rd.go_done]
  · intro j y hj hy
    rcases Nat.lt_or_ge j i with h | h
    · exact hI j y h hy
    · obtain rfl : j = i := by omega
      rw [hx] at hy
      cases hy
      cases hv : validE x with
      | true => rfl
      | false => simp [hv] at hs'
  · have hval : ∀ e ∈ l, validE e = true := fun e he => by
      obtain ⟨j, hj⟩ := List.mem_iff_getElem?.1 he
      exact hI j e (lt_of_some hj) hj
    have hw : w64 ((l.length : Int) + 1) = ((l.length + 1 : Nat) : Int) := w64_succ (by omega)
    have hwk : w64 k = k := w64_id (by omega) (by omega)
    obtain ⟨q, hq⟩ : ∃ q : Nat, Int.tmod (w64 k) (w64 ((l.length : Int) + 1)) = (q : Int) ∧ q ≤ l.length := by
      refine ⟨(Int.tmod (w64 k) (w64 ((l.length : Int) + 1))).toNat, ?_, ?_⟩
      · rw [hw, hwk, Int.tmod_eq_emod_of_nonneg hk.1]
        have := Int.emod_nonneg k (show ((l.length + 1 : Nat) : Int) ≠ 0 by omega)
        omega
      · rw [hw, hwk, Int.tmod_eq_emod_of_nonneg hk.1]
        have := Int.emod_lt_of_pos k (show (0 : Int) < ((l.length + 1 : Nat) : Int) by omega)
        omega
    rw [hw] at hq
    simp only [vI_mk, vB_mk, vS_mk, vL_mk, sVer_mk, sOff_mk, sLen_mk, oVer_mk, oEs_mk, cI_mk, cB_mk, cS_mk, cL_mk, cVer_mk, cOff_mk, cLen_mk, gI_zero, gI_succ, gB_zero, gB_succ, gS_zero, gS_succ, gL_zero, gL_succ, okI_zero, okI_succ, okB_zero, okB_succ, okS_zero, okS_succ, okL_zero, okL_succ, isIntT_int, isBoolT_bool, isStrT_str, isSlT_sl, intOf_int, boolOf_bool, strOf_str, slOf_sl, treeOf_t, srVer_sref, srOff_sref, srLen_sref, ver_row, esOf_row, cellOf_box, List.getD_cons_zero, List.getD_cons_succ, decide_true, decide_false, cnd_true, cnd_false, true_and, and_true, false_and, and_false, Option.bind_some, Option.bind_none, List.length_cons, List.length_nil, List.length_map, List.getElem?_map, Option.map_some, Option.map_none, Int.toNat_natCast, reduceCtorEq, eq_self, if_true, if_false, Nat.zero_add, Nat.reduceAdd, Nat.reduceEqDiff, Int.natCast_nonneg, List.drop_zero, or_true, true_or, or_false, false_or, Bool.not_true, Bool.not_false, Bool.false_eq_true, decide_eq_true_eq, ge_iff_le, gt_iff_lt, Int.lt_irrefl, hw, hq.1, (show ¬ ((l.length + 1 : Nat) : Int) = 0 by omega), (show (q : Int) ≤ (l.length : Int) by omega)]
    refine ev_unused (loop_overQ (fun (r : Bool) => [Tree.bool r]) l (fun i (a : List Event) => (([.t (.sl 3 (a.map Event.enc)), .t (tI i)], []) : List AV × Heap)) (fun _ a x => .next (refIns a x)) (fun s => true) (fun i a => GoodA i a ∧ a = (l.take i).foldl refIns []) [] rfl ⟨⟨by simp, by simp, .nil⟩, by simp⟩ (runL_fold refIns (fun _ => true) 0 l [])
      (fun i a x hx hI => ?_) (fun i a x s' hx hI hs' => ?_) (fun a hI => ?_))
    · have hi := lt_of_some hx
      obtain ⟨hg, ha⟩ := hI
      have hv := hval x (List.mem_of_getElem? hx)
      by_cases hm : x ∈ a
      · have q1 := s21 a x
        rw [add_old (by omega) hg hv hm] at q1
        refine q1.mono fun n h1 again => ?_
        simp only [vI_mk, vB_mk, vS_mk, vL_mk, sVer_mk, sOff_mk, sLen_mk, oVer_mk, oEs_mk, cI_mk, cB_mk, cS_mk, cL_mk, cVer_mk, cOff_mk, cLen_mk, gI_zero, gI_succ, gB_zero, gB_succ, gS_zero, gS_succ, gL_zero, gL_succ, okI_zero, okI_succ, okB_zero, okB_succ, okS_zero, okS_succ, okL_zero, okL_succ, isIntT_int, isBoolT_bool, isStrT_str, isSlT_sl, intOf_int, boolOf_bool, strOf_str, slOf_sl, treeOf_t, srVer_sref, srOff_sref, srLen_sref, ver_row, esOf_row, cellOf_box, List.getD_cons_zero, List.getD_cons_succ, decide_true, decide_false, cnd_true, cnd_false, true_and, and_true, false_and, and_false, Option.bind_some, Option.bind_none, List.length_cons, List.length_nil, List.length_map, List.getElem?_map, Option.map_some, Option.map_none, Int.toNat_natCast, reduceCtorEq, eq_self, if_true, if_false, Nat.zero_add, Nat.reduceAdd, Nat.reduceEqDiff, Int.natCast_nonneg, List.drop_zero, or_true, true_or, or_false, false_or, Bool.not_true, Bool.not_false, Bool.false_eq_true, decide_eq_true_eq, ge_iff_le, gt_iff_lt, hx, Event.enc, h1, (show (i : Int) < l.length by omega), w64_succ (show i < 4611686018427387904 by omega), Rd.go_next, beq_self_eq_true, refIns, if_pos hm]
      · have q1 := s21 a x
        obtain ⟨a1, a2⟩ := add_new (by omega) hg hv hm
        obtain ⟨r1, r2⟩ := rem_new (by omega) hg hv hm
        rw [a1, a2] at q1
        have q2 := s23 (insr x a) x
        rw [r1, r2] at q2
        have hgi := good_insr hg hv hm
        have q3 := s10 (insr x a)
        rw [good_check (by omega) hgi] at q3
        refine (q1.and (q2.and (q3.and ((s20 a a (by have := hg.1; omega)).and (s20 (insr x a) (insr x a) (by have := hgi.1; omega)))))).mono fun n h again => ?_
        obtain ⟨h1, h2, h3, h4, h5⟩ := h
        simp only [vI_mk, vB_mk, vS_mk, vL_mk, sVer_mk, sOff_mk, sLen_mk, oVer_mk, oEs_mk, cI_mk, cB_mk, cS_mk, cL_mk, cVer_mk, cOff_mk, cLen_mk, gI_zero, gI_succ, gB_zero, gB_succ, gS_zero, gS_succ, gL_zero, gL_succ, okI_zero, okI_succ, okB_zero, okB_succ, okS_zero, okS_succ, okL_zero, okL_succ, isIntT_int, isBoolT_bool, isStrT_str, isSlT_sl, intOf_int, boolOf_bool, strOf_str, slOf_sl, treeOf_t, srVer_sref, srOff_sref, srLen_sref, ver_row, esOf_row, cellOf_box, List.getD_cons_zero, List.getD_cons_succ, decide_true, decide_false, cnd_true, cnd_false, true_and, and_true, false_and, and_false, Option.bind_some, Option.bind_none, List.length_cons, List.length_nil, List.length_map, List.getElem?_map, Option.map_some, Option.map_none, Int.toNat_natCast, reduceCtorEq, eq_self, if_true, if_false, Nat.zero_add, Nat.reduceAdd, Nat.reduceEqDiff, Int.natCast_nonneg, List.drop_zero, or_true, true_or, or_false, false_or, Bool.not_true, Bool.not_false, Bool.false_eq_true, decide_eq_true_eq, ge_iff_le, gt_iff_lt, hx, Event.enc, h1, h2, h3, h4, h5, (show (i : Int) < l.length by omega), w64_succ (show i < 4611686018427387904 by omega), Rd.go_next, bne_self_eq_false, show ((0 : Int) == 6) = false from rfl, refIns, if_neg hm, insR_eq hm]
    · have hi := lt_of_some hx
      simp only [Rd.next.injEq] at hs'
      subst hs'
      refine ⟨good_ref hI.1 (hval x (List.mem_of_getElem? hx)), ?_⟩
      rw [List.take_add_one, hx, List.foldl_append, ← hI.2]
      rfl
    · obtain ⟨hg, ha⟩ := hI
      rw [List.take_length] at ha
      simp only [vI_mk, vB_mk, vS_mk, vL_mk, sVer_mk, sOff_mk, sLen_mk, oVer_mk, oEs_mk, cI_mk, cB_mk, cS_mk, cL_mk, cVer_mk, cOff_mk, cLen_mk, gI_zero, gI_succ, gB_zero, gB_succ, gS_zero, gS_succ, gL_zero, gL_succ, okI_zero, okI_succ, okB_zero, okB_succ, okS_zero, okS_succ, okL_zero, okL_succ, isIntT_int, isBoolT_bool, isStrT_str, isSlT_sl, intOf_int, boolOf_bool, strOf_str, slOf_sl, treeOf_t, srVer_sref, srOff_sref, srLen_sref, ver_row, esOf_row, cellOf_box, List.getD_cons_zero, List.getD_cons_succ, decide_true, decide_false, cnd_true, cnd_false, true_and, and_true, false_and, and_false, Option.bind_some, Option.bind_none, List.length_cons, List.length_nil, List.length_map, List.getElem?_map, Option.map_some, Option.map_none, Int.toNat_natCast, reduceCtorEq, eq_self, if_true, if_false, Nat.zero_add, Nat.reduceAdd, Nat.reduceEqDiff, Int.natCast_nonneg, List.drop_zero, or_true, true_or, or_false, false_or, Bool.not_true, Bool.not_false, Bool.false_eq_true, decide_eq_true_eq, ge_iff_le, gt_iff_lt, Int.lt_irrefl, (show (q : Int) ≤ (l.length : Int) by omega)]
      have e1 : List.take l.length (List.map Event.enc l) = List.map Event.enc l := List.take_of_length_le (by simp)
      have hcat : Runs C 1000026 [Tree.sl 1 [[Tree.sl 3 (List.drop q (List.map Event.enc l))], [Tree.sl 3 (List.take q (List.map Event.enc l))]]] [Tree.sl 3 ((l.drop q ++ l.take q).map Event.enc)] := by
        have := sConcat [(l.drop q).map Event.enc, (l.take q).map Event.enc] (by simp) (by simp; omega)
        simp only [List.flatten_cons, List.flatten_nil, List.append_nil, ← List.map_append] at this
        simpa [encS, List.map_take, List.map_drop] using this
      refine ev_unused (Ev.rw (T' := ?TT) hcat (fun n h => ?g1) ?g2)
      case g1 =>
        simp only [e1, h, vI_mk, vB_mk, vS_mk, vL_mk, sVer_mk, sOff_mk, sLen_mk, oVer_mk, oEs_mk, cI_mk, cB_mk, cS_mk, cL_mk, cVer_mk, cOff_mk, cLen_mk, gI_zero, gI_succ, gB_zero, gB_succ, gS_zero, gS_succ, gL_zero, gL_succ, okI_zero, okI_succ, okB_zero, okB_succ, okS_zero, okS_succ, okL_zero, okL_succ, isIntT_int, isBoolT_bool, isStrT_str, isSlT_sl, intOf_int, boolOf_bool, strOf_str, slOf_sl, treeOf_t, srVer_sref, srOff_sref, srLen_sref, ver_row, esOf_row, cellOf_box, List.getD_cons_zero, List.getD_cons_succ, decide_true, decide_false, cnd_true, cnd_false, true_and, and_true, false_and, and_false, Option.bind_some, Option.bind_none, List.length_cons, List.length_nil, List.length_map, List.getElem?_map, Option.map_some, Option.map_none, Int.toNat_natCast, reduceCtorEq, eq_self, if_true, if_false, Nat.zero_add, Nat.reduceAdd, Nat.reduceEqDiff, Int.natCast_nonneg, List.drop_zero, or_true, true_or, or_false, false_or, Bool.not_true, Bool.not_false, Bool.false_eq_true, decide_eq_true_eq, ge_iff_le, gt_iff_lt, hq.1, (show (q : Int) ≤ (l.length : Int) by omega)]
        rfl
      case g2 =>
        have hlen : (l.drop q ++ l.take q).length = l.length := by simp; omega
        generalize hm : l.drop q ++ l.take q = m at *
        have hmv : ∀ e ∈ m, validE e = true := fun e he => by
          rw [← hm, List.mem_append] at he
          rcases he with he | he
          · exact hval e (List.mem_of_mem_drop he)
          · exact hval e (List.mem_of_mem_take he)
        refine loop_overQ (fun (r : Bool) => [Tree.bool r]) m (fun i (b : List Event) => (([.t (.sl 3 (b.map Event.enc)), .t (tI i)], [.row false 0 3 (m.map Event.enc)]) : List AV × Heap)) (fun _ b x => .next (refIns b x)) (fun s => true) (fun i b => GoodA i b ∧ b = (m.take i).foldl refIns []) [] rfl ⟨⟨by simp, by simp, .nil⟩, by simp⟩ (runL_fold refIns (fun _ => true) 0 m [])
          (fun i b x hx hI => ?_) (fun i b x s' hx hI hs' => ?_) (fun b hI => ?_)
        · have hi := lt_of_some hx
          obtain ⟨hgb, hb⟩ := hI
          have hv := hmv x (List.mem_of_getElem? hx)
          by_cases hmm : x ∈ b
          · have q1 := s21 b x
            rw [add_old (by omega) hgb hv hmm] at q1
            refine q1.mono fun n h1 again => ?_
            simp only [vI_mk, vB_mk, vS_mk, vL_mk, sVer_mk, sOff_mk, sLen_mk, oVer_mk, oEs_mk, cI_mk, cB_mk, cS_mk, cL_mk, cVer_mk, cOff_mk, cLen_mk, gI_zero, gI_succ, gB_zero, gB_succ, gS_zero, gS_succ, gL_zero, gL_succ, okI_zero, okI_succ, okB_zero, okB_succ, okS_zero, okS_succ, okL_zero, okL_succ, isIntT_int, isBoolT_bool, isStrT_str, isSlT_sl, intOf_int, boolOf_bool, strOf_str, slOf_sl, treeOf_t, srVer_sref, srOff_sref, srLen_sref, ver_row, esOf_row, cellOf_box, List.getD_cons_zero, List.getD_cons_succ, decide_true, decide_false, cnd_true, cnd_false, true_and, and_true, false_and, and_false, Option.bind_some, Option.bind_none, List.length_cons, List.length_nil, List.length_map, List.getElem?_map, Option.map_some, Option.map_none, Int.toNat_natCast, reduceCtorEq, eq_self, if_true, if_false, Nat.zero_add, Nat.reduceAdd, Nat.reduceEqDiff, Int.natCast_nonneg, List.drop_zero, or_true, true_or, or_false, false_or, Bool.not_true, Bool.not_false, Bool.false_eq_true, decide_eq_true_eq, ge_iff_le, gt_iff_lt, hx, Event.enc, h1, (show (i : Int) < m.length by omega), w64_succ (show i < 4611686018427387904 by omega), Rd.go_next, show ((6 : Int) == 0) = false from rfl, refIns, if_pos hmm]
          · have q1 := s21 b x
            obtain ⟨a1, a2⟩ := add_new (by omega) hgb hv hmm
            rw [a1, a2] at q1
            refine q1.mono fun n h1 again => ?_
            simp only [vI_mk, vB_mk, vS_mk, vL_mk, sVer_mk, sOff_mk, sLen_mk, oVer_mk, oEs_mk, cI_mk, cB_mk, cS_mk, cL_mk, cVer_mk, cOff_mk, cLen_mk, gI_zero, gI_succ, gB_zero, gB_succ, gS_zero, gS_succ, gL_zero, gL_succ, okI_zero, okI_succ, okB_zero, okB_succ, okS_zero, okS_succ, okL_zero, okL_succ, isIntT_int, isBoolT_bool, isStrT_str, isSlT_sl, intOf_int, boolOf_bool, strOf_str, slOf_sl, treeOf_t, srVer_sref, srOff_sref, srLen_sref, ver_row, esOf_row, cellOf_box, List.getD_cons_zero, List.getD_cons_succ, decide_true, decide_false, cnd_true, cnd_false, true_and, and_true, false_and, and_false, Option.bind_some, Option.bind_none, List.length_cons, List.length_nil, List.length_map, List.getElem?_map, Option.map_some, Option.map_none, Int.toNat_natCast, reduceCtorEq, eq_self, if_true, if_false, Nat.zero_add, Nat.reduceAdd, Nat.reduceEqDiff, Int.natCast_nonneg, List.drop_zero, or_true, true_or, or_false, false_or, Bool.not_true, Bool.not_false, Bool.false_eq_true, decide_eq_true_eq, ge_iff_le, gt_iff_lt, hx, Event.enc, h1, (show (i : Int) < m.length by omega), w64_succ (show i < 4611686018427387904 by omega), Rd.go_next, beq_self_eq_true, refIns, if_neg hmm, insR_eq hmm]
        · have hi := lt_of_some hx
          simp only [Rd.next.injEq] at hs'
          subst hs'
          refine ⟨good_ref hI.1 (hmv x (List.mem_of_getElem? hx)), ?_⟩
          rw [List.take_add_one, hx, List.foldl_append, ← hI.2]
          rfl
        · obtain ⟨hgb, hb⟩ := hI
          rw [List.take_length] at hb
          have hab : a = b := by
            refine srt_ext hg.2.2 hgb.2.2 fun x => ?_
            rw [ha, hb, (fold_good l [] 0 ⟨by simp, by simp, .nil⟩ hval).2, (fold_good m [] 0 ⟨by simp, by simp, .nil⟩ hmv).2, ← hm, List.mem_append]
            simp only [List.not_mem_nil, false_or]
            constructor
            · intro h
              rw [← List.take_append_drop q l, List.mem_append] at h
              exact h.symm
            · rintro (h | h)
              · exact List.mem_of_mem_drop h
              · exact List.mem_of_mem_take h
          subst hab
          refine ((s20 a a (by have := hg.1; omega)).and s11).mono fun n h again => ?_
          obtain ⟨h1, h2⟩ := h
          simp only [vI_mk, vB_mk, vS_mk, vL_mk, sVer_mk, sOff_mk, sLen_mk, oVer_mk, oEs_mk, cI_mk, cB_mk, cS_mk, cL_mk, cVer_mk, cOff_mk, cLen_mk, gI_zero, gI_succ, gB_zero, gB_succ, gS_zero, gS_succ, gL_zero, gL_succ, okI_zero, okI_succ, okB_zero, okB_succ, okS_zero, okS_succ, okL_zero, okL_succ, isIntT_int, isBoolT_bool, isStrT_str, isSlT_sl, intOf_int, boolOf_bool, strOf_str, slOf_sl, treeOf_t, srVer_sref, srOff_sref, srLen_sref, ver_row, esOf_row, cellOf_box, List.getD_cons_zero, List.getD_cons_succ, decide_true, decide_false, cnd_true, cnd_false, true_and, and_true, false_and, and_false, Option.bind_some, Option.bind_none, List.length_cons, List.length_nil, List.length_map, List.getElem?_map, Option.map_some, Option.map_none, Int.toNat_natCast, reduceCtorEq, eq_self, if_true, if_false, Nat.zero_add, Nat.reduceAdd, Nat.reduceEqDiff, Int.natCast_nonneg, List.drop_zero, or_true, true_or, or_false, false_or, Bool.not_true, Bool.not_false, Bool.false_eq_true, decide_eq_true_eq, ge_iff_le, gt_iff_lt, Int.lt_irrefl, h1, h2, (show (a.length : Int) ≤ (l.length : Int) by have := hg.1; omega)]
end Ab
