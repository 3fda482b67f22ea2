/- Booking: the laws Add and Restored. -/
import Derived.Test.YtlgphbnkicihgaaBkL
set_option linter.unusedVariables false
set_option linter.unusedSimpArgs false
namespace Ab
open Go

theorem addL_len (q : List Int) (cs : List Contact) (l : List Booking) (b : Booking) : (addL q cs l b).length ≤ l.length + 1 := by
  unfold addL
  split
  · rw [bIns, insB_len]; omega
  · simp
theorem blkL_len (q : List Int) (cs : List Contact) (l : List Booking) (k f : Int) : (blkL q cs l k f).length ≤ 512 := by
  unfold blkL
  split
  · simp
  · rename_i h
    unfold blkC at h
    split
    · simp
    · rename_i c hc
      rw [blk_len]
      rw [hc] at h
      grind
theorem rel_len (l : List Booking) (t : Int) : (rel l t).length ≤ l.length := List.length_filter_le _ _
theorem law9 (q : List Int) (cs : List Contact) (l : List Booking) (b : Booking) (f : Int) :
    Runs C 9 [.sl 1 (q.map encI), .sl 7 (cs.map Contact.enc), .sl 4 (l.map Booking.enc), tI b.contact, tI b.beg, tI b.stop, tI b.ticket, tI f] [.bool true] := by
  refine Runs.of (fun n => e9 n _ _ _ _ _ _ _ _) ?_
  by_cases hg : 6 < q.length ∨ 10 < cs.length ∨ 30 < l.length
  · refine ((s11 q cs l).and s12).mono fun n ⟨h1, h2⟩ => ?_
    simp only [h1, h2, vI_mk, vB_mk, vS_mk, vL_mk, sVer_mk, sOff_mk, sLen_mk, oVer_mk, oEs_mk, cI_mk, cB_mk, cS_mk, cL_mk, cVer_mk, cOff_mk, cLen_mk, gI_zero, gI_succ, gB_zero, gB_succ, gS_zero, gS_succ, gL_zero, gL_succ, okI_zero, okI_succ, okB_zero, okB_succ, okS_zero, okS_succ, okL_zero, okL_succ, isIntT_int, isBoolT_bool, isStrT_str, isSlT_sl, intOf_int, boolOf_bool, strOf_str, slOf_sl, treeOf_t, srVer_sref, srOff_sref, srLen_sref, ver_row, esOf_row, cellOf_box, List.getD_cons_zero, List.getD_cons_succ, decide_true, decide_false, cnd_true, cnd_false, true_and, and_true, false_and, and_false, Option.bind_some, Option.bind_none, List.length_cons, List.length_nil, List.length_map, List.getElem?_map, Option.map_some, Option.map_none, Int.toNat_natCast, reduceCtorEq, eq_self, if_true, if_false, Nat.zero_add, Nat.reduceAdd, Nat.reduceEqDiff, Int.natCast_nonneg, List.drop_zero, or_true, true_or, or_false, false_or, Bool.not_true, Bool.not_false, Bool.false_eq_true, decide_eq_true_eq, ge_iff_le, gt_iff_lt, hg]
  · have h1 := addL_len q cs l b
    have h2 := blkL_len q cs l b.contact f
    have h3 := rel_len l b.ticket
    refine ((s11 q cs l).and (s12.and ((s26 q cs l b).and ((s30 q cs l b).and ((s27 q cs l b.contact f).and ((s31 q cs l b.contact f).and ((s33 l b.ticket (by omega)).and ((s34 l b.ticket (by omega)).and ((s32 (addL q cs l b) (addL q cs l b) (by omega)).and ((s32 (blkL q cs l b.contact f) (blkL q cs l b.contact f) (by omega)).and (s32 (rel l b.ticket) (rel l b.ticket) (by omega)))))))))))).mono
      fun n ⟨h1, h2, h3, h4, h5, h6, h7, h8, h9, h10, h11⟩ => ?_
    simp only [h1, h2, h3, h4, h5, h6, h7, h8, h9, h10, h11, vI_mk, vB_mk, vS_mk, vL_mk, sVer_mk, sOff_mk, sLen_mk, oVer_mk, oEs_mk, cI_mk, cB_mk, cS_mk, cL_mk, cVer_mk, cOff_mk, cLen_mk, gI_zero, gI_succ, gB_zero, gB_succ, gS_zero, gS_succ, gL_zero, gL_succ, okI_zero, okI_succ, okB_zero, okB_succ, okS_zero, okS_succ, okL_zero, okL_succ, isIntT_int, isBoolT_bool, isStrT_str, isSlT_sl, intOf_int, boolOf_bool, strOf_str, slOf_sl, treeOf_t, srVer_sref, srOff_sref, srLen_sref, ver_row, esOf_row, cellOf_box, List.getD_cons_zero, List.getD_cons_succ, decide_true, decide_false, cnd_true, cnd_false, true_and, and_true, false_and, and_false, Option.bind_some, Option.bind_none, List.length_cons, List.length_nil, List.length_map, List.getElem?_map, Option.map_some, Option.map_none, Int.toNat_natCast, reduceCtorEq, eq_self, if_true, if_false, Nat.zero_add, Nat.reduceAdd, Nat.reduceEqDiff, Int.natCast_nonneg, List.drop_zero, or_true, true_or, or_false, false_or, Bool.not_true, Bool.not_false, Bool.false_eq_true, decide_eq_true_eq, ge_iff_le, gt_iff_lt, hg, beq_self_eq_true]

theorem sum_ins (g : Booking → Bool) (b : Booking) (k : Int) : ∀ (l : List Booking), sumS (busy (insB g b l) k) = sumS (busy l k) + if b.contact = k then b.stop - b.beg else 0
  | [] => by
    by_cases h : b.contact = k <;> simp [insB, busy, sumS, h]
  | x :: l => by
    have hc : ∀ (y : Booking) (m : List Booking), sumS (busy (y :: m) k) = (if y.contact = k then y.stop - y.beg else 0) + sumS (busy m k) := by
      intro y m
      by_cases h : y.contact = k <;> simp [busy, sumS, h]
    unfold insB
    split
    · rw [hc, hc]; omega
    · rw [hc, hc, sum_ins g b k l]; omega
theorem ck_of {q : List Int} {cs : List Contact} {l : List Booking} {k : Int} (h : bookCheck q cs l = 0) (hk : 0 ≤ k ∧ k < cs.length) : ckCheck q cs l k = 0 := by
  unfold ckCheck
  rw [if_neg (by simp [h]), if_neg (by omega)]
theorem load_sum {q : List Int} {cs : List Contact} {l : List Booking} {k : Int} (h : ckCheck q cs l k = 0) : loadRes q cs l k = sumS (busy l k) ∧ 0 ≤ sumS (busy l k) ∧ sumS (busy l k) ≤ 1099511627776 := by
  obtain ⟨c, hc, hk0, hk1, hcc, hbo, hlen⟩ := ck_ok h
  have hrow := busy_row hbo hc hcc
  have hs := sum_both _ _ hrow
  have hm := row_mem _ _ hrow
  have o := contact_ok hcc
  have n1 := sumS_nonneg (busy l k) hm
  have n2 := sumS_nonneg (gapsR c.stop (busy l k) c.start) fun x hx => (gapsR_mem _ _ hrow x hx).2.1
  refine ⟨?_, n1, by omega⟩
  simp only [loadRes, h, ne_eq, not_true_eq_false, if_false, loadW]
  rw [fold_w64 _ _ hm (Int.le_refl _) (by omega)]
  omega
theorem law10 (q : List Int) (cs : List Contact) (l : List Booking) (b : Booking) :
    Runs C 10 [.sl 1 (q.map encI), .sl 7 (cs.map Contact.enc), .sl 4 (l.map Booking.enc), tI b.contact, tI b.beg, tI b.stop, tI b.ticket] [.bool true] := by
  refine Runs.of (fun n => e10 n _ _ _ _ _ _ _) ?_
  by_cases hg : 6 < q.length ∨ 10 < cs.length ∨ 30 < l.length
  · refine ((s11 q cs l).and s12).mono fun n ⟨h1, h2⟩ => ?_
    simp only [h1, h2, vI_mk, vB_mk, vS_mk, vL_mk, sVer_mk, sOff_mk, sLen_mk, oVer_mk, oEs_mk, cI_mk, cB_mk, cS_mk, cL_mk, cVer_mk, cOff_mk, cLen_mk, gI_zero, gI_succ, gB_zero, gB_succ, gS_zero, gS_succ, gL_zero, gL_succ, okI_zero, okI_succ, okB_zero, okB_succ, okS_zero, okS_succ, okL_zero, okL_succ, isIntT_int, isBoolT_bool, isStrT_str, isSlT_sl, intOf_int, boolOf_bool, strOf_str, slOf_sl, treeOf_t, srVer_sref, srOff_sref, srLen_sref, ver_row, esOf_row, cellOf_box, List.getD_cons_zero, List.getD_cons_succ, decide_true, decide_false, cnd_true, cnd_false, true_and, and_true, false_and, and_false, Option.bind_some, Option.bind_none, List.length_cons, List.length_nil, List.length_map, List.getElem?_map, Option.map_some, Option.map_none, Int.toNat_natCast, reduceCtorEq, eq_self, if_true, if_false, Nat.zero_add, Nat.reduceAdd, Nat.reduceEqDiff, Int.natCast_nonneg, List.drop_zero, or_true, true_or, or_false, false_or, Bool.not_true, Bool.not_false, Bool.false_eq_true, decide_eq_true_eq, ge_iff_le, gt_iff_lt, hg]
  by_cases ha : addC q cs l b = 0
  · obtain ⟨p1, p2, p3, p4⟩ := add_ok ha
    obtain ⟨o1, o2, o3⟩ := bookCheck_ok p1
    have hv := valid_ok p2
    have hmore : addL q cs l b = bIns l b := by simp [addL, ha]
    have hlen : (bIns l b).length = l.length + 1 := insB_len _ _ _
    have hbm := ins_ok o3 p2 p4
    have cm := bookCheck_of o1 (show (bIns l b).length ≤ 512 by omega) hbm
    have k1 := ck_of p1 ⟨hv.1, hv.2.1⟩
    have k2 := ck_of cm ⟨hv.1, hv.2.1⟩
    obtain ⟨l1, l2, l3⟩ := load_sum k1
    obtain ⟨m1, m2, m3⟩ := load_sum k2
    obtain ⟨c, hc, _, _, hcc, _⟩ := ck_ok k1
    have oc := contact_ok hcc
    have hvc := hv.2.2.2.2 c hc
    have hsum : sumS (busy (bIns l b) b.contact) = sumS (busy l b.contact) + (b.stop - b.beg) := by
      have := sum_ins (fun x => !bLt x b) b b.contact l
      simpa [bIns] using this
    have hw : w64 (w64 (sumS (busy l b.contact) + b.stop) - b.beg) = sumS (busy (bIns l b) b.contact) := by
      rw [w64_id (x := sumS (busy l b.contact) + b.stop) (by omega) (by omega), w64_id (by omega) (by omega)]
      omega
    have hw2 : w64 ((l.length : Int) + 1) = ((l.length + 1 : Nat) : Int) := w64_succ (by omega)
    have q1 := s26 q cs l b; rw [ha, hmore] at q1
    have q2 := s19 q cs (bIns l b); rw [cm] at q2
    have q3 := s29 (bIns l b) b (by omega); rw [show decide (b ∈ bIns l b) = true by simp [bIns, insB_mem]] at q3
    have q4 := s17 q cs l b.contact; rw [k1, l1] at q4
    have q5 := s17 q cs (bIns l b) b.contact; rw [k2, m1] at q5
    refine Ev.rw (T' := ?TT) ((s11 q cs l).and (q1.and (q2.and (q3.and (q4.and q5))))) (fun n h => ?g1) ?g2
    case g1 =>
      obtain ⟨h1, h2, h3, h4, h5, h6⟩ := h
      simp only [h1, h2, h3, h4, h5, h6, vI_mk, vB_mk, vS_mk, vL_mk, sVer_mk, sOff_mk, sLen_mk, oVer_mk, oEs_mk, cI_mk, cB_mk, cS_mk, cL_mk, cVer_mk, cOff_mk, cLen_mk, gI_zero, gI_succ, gB_zero, gB_succ, gS_zero, gS_succ, gL_zero, gL_succ, okI_zero, okI_succ, okB_zero, okB_succ, okS_zero, okS_succ, okL_zero, okL_succ, isIntT_int, isBoolT_bool, isStrT_str, isSlT_sl, intOf_int, boolOf_bool, strOf_str, slOf_sl, treeOf_t, srVer_sref, srOff_sref, srLen_sref, ver_row, esOf_row, cellOf_box, List.getD_cons_zero, List.getD_cons_succ, decide_true, decide_false, cnd_true, cnd_false, true_and, and_true, false_and, and_false, Option.bind_some, Option.bind_none, List.length_cons, List.length_nil, List.length_map, List.getElem?_map, Option.map_some, Option.map_none, Int.toNat_natCast, reduceCtorEq, eq_self, if_true, if_false, Nat.zero_add, Nat.reduceAdd, Nat.reduceEqDiff, Int.natCast_nonneg, List.drop_zero, or_true, true_or, or_false, false_or, Bool.not_true, Bool.not_false, Bool.false_eq_true, decide_eq_true_eq, ge_iff_le, gt_iff_lt, hg, bne_self_eq_false, hlen, hw, hw2]
      rfl
    case g2 =>
      refine loop_overQ (fun (r : Bool) => [Tree.bool r]) l (fun i (_ : Unit) => (([.t (tI i)], []) : List AV × Heap)) (fun _ _ x => if relP b.ticket x = true then .done true else .next ()) (fun _ => true) (fun i _ => ∀ (j : Nat) y, j < i → l[j]? = some y → relP b.ticket y = false) () rfl (fun j y h => by omega) ?_
        (fun i s x hx hI => ?_) (fun i s x s' hx hI hs' => ?_) (fun s hI => ?_)
      · have : ∀ (l : List Booking) (i : Nat), runL (fun _ (_ : Unit) x => if relP b.ticket x = true then Rd.done true else Rd.next ()) (fun _ => true) i l () = true := by
          intro l
          induction l with
          | nil => intro i; rfl
          | cons x l ih =>
            intro i
            cases hx : relP b.ticket x with
            | true => simp [runL, hx]
            | false => simp only [runL, hx]; exact ih (i + 1)
        exact this l 0
      · have hi := lt_of_some hx
        refine s12.mono fun n h again => ?_
        cases hp : relP b.ticket x with
        | true =>
          have : (x.ticket == b.ticket) = true := by simpa [relP] using hp
          simp only [vI_mk, vB_mk, vS_mk, vL_mk, sVer_mk, sOff_mk, sLen_mk, oVer_mk, oEs_mk, cI_mk, cB_mk, cS_mk, cL_mk, cVer_mk, cOff_mk, cLen_mk, gI_zero, gI_succ, gB_zero, gB_succ, gS_zero, gS_succ, gL_zero, gL_succ, okI_zero, okI_succ, okB_zero, okB_succ, okS_zero, okS_succ, okL_zero, okL_succ, isIntT_int, isBoolT_bool, isStrT_str, isSlT_sl, intOf_int, boolOf_bool, strOf_str, slOf_sl, treeOf_t, srVer_sref, srOff_sref, srLen_sref, ver_row, esOf_row, cellOf_box, List.getD_cons_zero, List.getD_cons_succ, decide_true, decide_false, cnd_true, cnd_false, true_and, and_true, false_and, and_false, Option.bind_some, Option.bind_none, List.length_cons, List.length_nil, List.length_map, List.getElem?_map, Option.map_some, Option.map_none, Int.toNat_natCast, reduceCtorEq, eq_self, if_true, if_false, Nat.zero_add, Nat.reduceAdd, Nat.reduceEqDiff, Int.natCast_nonneg, List.drop_zero, or_true, true_or, or_false, false_or, Bool.not_true, Bool.not_false, Bool.false_eq_true, decide_eq_true_eq, ge_iff_le, gt_iff_lt, hx, Booking.enc, h, this, (show (i : Int) < l.length by omega), Rd.go_done]
        | false =>
          have : (x.ticket == b.ticket) = false := by simpa [relP] using hp
          simp only [vI_mk, vB_mk, vS_mk, vL_mk, sVer_mk, sOff_mk, sLen_mk, oVer_mk, oEs_mk, cI_mk, cB_mk, cS_mk, cL_mk, cVer_mk, cOff_mk, cLen_mk, gI_zero, gI_succ, gB_zero, gB_succ, gS_zero, gS_succ, gL_zero, gL_succ, okI_zero, okI_succ, okB_zero, okB_succ, okS_zero, okS_succ, okL_zero, okL_succ, isIntT_int, isBoolT_bool, isStrT_str, isSlT_sl, intOf_int, boolOf_bool, strOf_str, slOf_sl, treeOf_t, srVer_sref, srOff_sref, srLen_sref, ver_row, esOf_row, cellOf_box, List.getD_cons_zero, List.getD_cons_succ, decide_true, decide_false, cnd_true, cnd_false, true_and, and_true, false_and, and_false, Option.bind_some, Option.bind_none, List.length_cons, List.length_nil, List.length_map, List.getElem?_map, Option.map_some, Option.map_none, Int.toNat_natCast, reduceCtorEq, eq_self, if_true, if_false, Nat.zero_add, Nat.reduceAdd, Nat.reduceEqDiff, Int.natCast_nonneg, List.drop_zero, or_true, true_or, or_false, false_or, Bool.not_true, Bool.not_false, Bool.false_eq_true, decide_eq_true_eq, ge_iff_le, gt_iff_lt, hx, Booking.enc, this, (show (i : Int) < l.length by omega), w64_succ (show i < 4611686018427387904 by omega), Rd.go_next]
      · intro j y hj hy
        rcases Nat.lt_or_ge j i with h | h
        · exact hI j y h hy
        · obtain rfl : j = i := by omega
          rw [hx] at hy
          cases hy
          cases hv : relP b.ticket x with
          | false => rfl
          | true => simp [hv] at hs'
      · have hrel : rel (bIns l b) b.ticket = l := by
          unfold rel bIns
          rw [insB_filter _ _ _ _ (by simp [relP])]
          exact filter_none hI
        have q6 := s33 (bIns l b) b.ticket (by omega); rw [hrel] at q6
        refine (q6.and ((s28 l l (by omega)).and s12)).mono fun n h again => ?_
        obtain ⟨h1, h2, h3⟩ := h
        simp only [vI_mk, vB_mk, vS_mk, vL_mk, sVer_mk, sOff_mk, sLen_mk, oVer_mk, oEs_mk, cI_mk, cB_mk, cS_mk, cL_mk, cVer_mk, cOff_mk, cLen_mk, gI_zero, gI_succ, gB_zero, gB_succ, gS_zero, gS_succ, gL_zero, gL_succ, okI_zero, okI_succ, okB_zero, okB_succ, okS_zero, okS_succ, okL_zero, okL_succ, isIntT_int, isBoolT_bool, isStrT_str, isSlT_sl, intOf_int, boolOf_bool, strOf_str, slOf_sl, treeOf_t, srVer_sref, srOff_sref, srLen_sref, ver_row, esOf_row, cellOf_box, List.getD_cons_zero, List.getD_cons_succ, decide_true, decide_false, cnd_true, cnd_false, true_and, and_true, false_and, and_false, Option.bind_some, Option.bind_none, List.length_cons, List.length_nil, List.length_map, List.getElem?_map, Option.map_some, Option.map_none, Int.toNat_natCast, reduceCtorEq, eq_self, if_true, if_false, Nat.zero_add, Nat.reduceAdd, Nat.reduceEqDiff, Int.natCast_nonneg, List.drop_zero, or_true, true_or, or_false, false_or, Bool.not_true, Bool.not_false, Bool.false_eq_true, decide_eq_true_eq, ge_iff_le, gt_iff_lt, Int.lt_irrefl, h1, h2, h3]
  · have hmore : addL q cs l b = [] := by simp [addL, ha]
    have q1 := s26 q cs l b; rw [hmore] at q1
    refine ((s11 q cs l).and (q1.and s12)).mono fun n h => ?_
    obtain ⟨h1, h2, h3⟩ := h
    simp only [h1, h2, h3, vI_mk, vB_mk, vS_mk, vL_mk, sVer_mk, sOff_mk, sLen_mk, oVer_mk, oEs_mk, cI_mk, cB_mk, cS_mk, cL_mk, cVer_mk, cOff_mk, cLen_mk, gI_zero, gI_succ, gB_zero, gB_succ, gS_zero, gS_succ, gL_zero, gL_succ, okI_zero, okI_succ, okB_zero, okB_succ, okS_zero, okS_succ, okL_zero, okL_succ, isIntT_int, isBoolT_bool, isStrT_str, isSlT_sl, intOf_int, boolOf_bool, strOf_str, slOf_sl, treeOf_t, srVer_sref, srOff_sref, srLen_sref, ver_row, esOf_row, cellOf_box, List.getD_cons_zero, List.getD_cons_succ, decide_true, decide_false, cnd_true, cnd_false, true_and, and_true, false_and, and_false, Option.bind_some, Option.bind_none, List.length_cons, List.length_nil, List.length_map, List.getElem?_map, Option.map_some, Option.map_none, Int.toNat_natCast, reduceCtorEq, eq_self, if_true, if_false, Nat.zero_add, Nat.reduceAdd, Nat.reduceEqDiff, Int.natCast_nonneg, List.drop_zero, or_true, true_or, or_false, false_or, Bool.not_true, Bool.not_false, Bool.false_eq_true, decide_eq_true_eq, ge_iff_le, gt_iff_lt, hg, (show (addC q cs l b != 0) = true by simp [ha]), List.map_nil]
    simp [cnd_eq]
end Ab
