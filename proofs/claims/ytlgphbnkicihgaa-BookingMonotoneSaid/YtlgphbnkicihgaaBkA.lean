/- Booking: what the small functions answer. -/
import Derived.Test.YtlgphbnkicihgaaAbY
set_option linter.unusedVariables false
set_option linter.unusedSimpArgs false
namespace Ab
open Go

structure Contact where
  frm : Int
  to : Int
  start : Int
  stop : Int
  rate : Int
  rng : Int
  loss : Int
  deriving DecidableEq
def Contact.enc (c : Contact) : List Tree := [tI c.frm, tI c.to, tI c.start, tI c.stop, tI c.rate, tI c.rng, tI c.loss]
structure Booking where
  contact : Int
  beg : Int
  stop : Int
  ticket : Int
  deriving DecidableEq
def Booking.enc (b : Booking) : List Tree := [tI b.contact, tI b.beg, tI b.stop, tI b.ticket]
structure Span where
  frm : Int
  to : Int
  deriving DecidableEq
def Span.enc (b : Span) : List Tree := [tI b.frm, tI b.to]
def encI (n : Int) : List Tree := [tI n]

/-! ### contacts -/
def contactCheck (c : Contact) : Int :=
  if ¬ (0 ≤ c.frm ∧ c.frm ≤ 15 ∧ 0 ≤ c.to ∧ c.to ≤ 15 ∧ 1 ≤ c.rate ∧ c.rate ≤ 1000 ∧ 1 ≤ c.rng ∧ c.rng ≤ 1048576 ∧ 0 ≤ c.loss ∧ c.loss ≤ 16) then 2
  else if c.frm = c.to then 1 else if c.start < 0 ∨ c.stop ≤ c.start ∨ 1099511627776 - 2 * c.rng < c.stop then 2 else 0

theorem s72 (a b c : Int) : Runs C 72 [tI a, tI b, tI c] [.bool (decide (b ≤ a ∧ a ≤ c))] := by
  refine Runs.of (fun n => e72 n a b c) (Ev.of fun n => ?_)
  simp only [cnd_eq]
  by_cases h : b ≤ a <;> simp [h]

theorem s64 (c : Contact) : Runs C 64 c.enc [tI (contactCheck c)] := by
  refine Runs.of (fun n => e64 n _ _ _ _ _ _ _) ?_
  refine ((s72 c.frm 0 15).and ((s72 c.to 0 15).and ((s72 c.rate 1 1000).and ((s72 c.rng 1 1048576).and (s72 c.loss 0 16))))).mono fun n ⟨h1, h2, h3, h4, h5⟩ => ?_
  simp only [h1, h2, h3, h4, h5, vI_mk, vB_mk, vS_mk, vL_mk, sVer_mk, sOff_mk, sLen_mk, oVer_mk, oEs_mk, cI_mk, cB_mk, cS_mk, cL_mk, cVer_mk, cOff_mk, cLen_mk, gI_zero, gI_succ, gB_zero, gB_succ, gS_zero, gS_succ, gL_zero, gL_succ, okI_zero, okI_succ, okB_zero, okB_succ, okS_zero, okS_succ, okL_zero, okL_succ, isIntT_int, isBoolT_bool, isStrT_str, isSlT_sl, intOf_int, boolOf_bool, strOf_str, slOf_sl, treeOf_t, srVer_sref, srOff_sref, srLen_sref, ver_row, esOf_row, cellOf_box, List.getD_cons_zero, List.getD_cons_succ, decide_true, decide_false, cnd_true, cnd_false, true_and, and_true, false_and, and_false, Option.bind_some, Option.bind_none, List.length_cons, List.length_nil, List.length_map, List.getElem?_map, Option.map_some, Option.map_none, Int.toNat_natCast, reduceCtorEq, eq_self, if_true, if_false, Nat.zero_add, Nat.reduceAdd, Nat.reduceEqDiff, Int.natCast_nonneg, List.drop_zero, or_true, true_or, or_false, false_or, Bool.not_true, Bool.not_false, Bool.false_eq_true, decide_eq_true_eq, ge_iff_le, gt_iff_lt]
  simp only [tI_cnd, contactCheck, w64, wrap64, Bool.not_eq_true', decide_eq_false_iff_not, beq_iff_eq]
  congr 3
  omega

theorem s70 (c : Contact) : Runs C 70 c.enc [tI (contactCheck c)] := by
  refine Runs.of (fun n => e70 n _ _ _ _ _ _ _) (Ev.of fun n => ?_)
  simp only [tI_cnd, contactCheck, w64, wrap64, beq_iff_eq, decide_eq_true_eq]
  congr 3
  omega

theorem contact_ok {c : Contact} (h : contactCheck c = 0) : 0 ≤ c.frm ∧ c.frm ≤ 15 ∧ 0 ≤ c.to ∧ c.to ≤ 15 ∧ 1 ≤ c.rate ∧ c.rate ≤ 1000 ∧ 1 ≤ c.rng ∧ c.rng ≤ 1048576 ∧ 0 ≤ c.loss ∧ c.loss ≤ 16 ∧ c.frm ≠ c.to ∧ 0 ≤ c.start ∧ c.start < c.stop ∧ c.stop ≤ 1099511627776 - 2 * c.rng := by
  simp only [contactCheck] at h
  omega

def overlap (a b : Contact) : Bool := decide (contactCheck a = 0 ∧ contactCheck b = 0 ∧ a.frm = b.frm ∧ a.to = b.to ∧ max a.start b.start < min a.stop b.stop)

theorem s67 (a b : Contact) : Runs C 67 (a.enc ++ b.enc) [.bool (overlap a b)] := by
  refine Runs.of (fun n => e67 n _ _ _ _ _ _ _ _ _ _ _ _ _ _) ?_
  refine ((s64 a).and (s64 b)).mono fun n ⟨h1, h2⟩ => ?_
  simp only [Contact.enc] at h1 h2
  simp only [h1, h2, vI_mk, vB_mk, vS_mk, vL_mk, sVer_mk, sOff_mk, sLen_mk, oVer_mk, oEs_mk, cI_mk, cB_mk, cS_mk, cL_mk, cVer_mk, cOff_mk, cLen_mk, gI_zero, gI_succ, gB_zero, gB_succ, gS_zero, gS_succ, gL_zero, gL_succ, okI_zero, okI_succ, okB_zero, okB_succ, okS_zero, okS_succ, okL_zero, okL_succ, isIntT_int, isBoolT_bool, isStrT_str, isSlT_sl, intOf_int, boolOf_bool, strOf_str, slOf_sl, treeOf_t, srVer_sref, srOff_sref, srLen_sref, ver_row, esOf_row, cellOf_box, List.getD_cons_zero, List.getD_cons_succ, decide_true, decide_false, cnd_true, cnd_false, true_and, and_true, false_and, and_false, Option.bind_some, Option.bind_none, List.length_cons, List.length_nil, List.length_map, List.getElem?_map, Option.map_some, Option.map_none, Int.toNat_natCast, reduceCtorEq, eq_self, if_true, if_false, Nat.zero_add, Nat.reduceAdd, Nat.reduceEqDiff, Int.natCast_nonneg, List.drop_zero, or_true, true_or, or_false, false_or, Bool.not_true, Bool.not_false, Bool.false_eq_true, decide_eq_true_eq, ge_iff_le, gt_iff_lt]
  simp only [cnd_eq, overlap, bne_iff_ne, ne_eq]
  by_cases k1 : contactCheck a = 0 <;> by_cases k2 : contactCheck b = 0 <;> by_cases k3 : a.frm = b.frm <;> by_cases k4 : a.to = b.to <;> simp [k1, k2, k3, k4]
  repeat' split
  all_goals omega

theorem s71 (a b : Contact) : Runs C 71 (a.enc ++ b.enc) [.bool (overlap a b)] := by
  refine Runs.of (fun n => e71 n _ _ _ _ _ _ _ _ _ _ _ _ _ _) ?_
  refine ((s70 a).and (s70 b)).mono fun n ⟨h1, h2⟩ => ?_
  simp only [Contact.enc] at h1 h2
  simp only [h1, h2, vI_mk, vB_mk, vS_mk, vL_mk, sVer_mk, sOff_mk, sLen_mk, oVer_mk, oEs_mk, cI_mk, cB_mk, cS_mk, cL_mk, cVer_mk, cOff_mk, cLen_mk, gI_zero, gI_succ, gB_zero, gB_succ, gS_zero, gS_succ, gL_zero, gL_succ, okI_zero, okI_succ, okB_zero, okB_succ, okS_zero, okS_succ, okL_zero, okL_succ, isIntT_int, isBoolT_bool, isStrT_str, isSlT_sl, intOf_int, boolOf_bool, strOf_str, slOf_sl, treeOf_t, srVer_sref, srOff_sref, srLen_sref, ver_row, esOf_row, cellOf_box, List.getD_cons_zero, List.getD_cons_succ, decide_true, decide_false, cnd_true, cnd_false, true_and, and_true, false_and, and_false, Option.bind_some, Option.bind_none, List.length_cons, List.length_nil, List.length_map, List.getElem?_map, Option.map_some, Option.map_none, Int.toNat_natCast, reduceCtorEq, eq_self, if_true, if_false, Nat.zero_add, Nat.reduceAdd, Nat.reduceEqDiff, Int.natCast_nonneg, List.drop_zero, or_true, true_or, or_false, false_or, Bool.not_true, Bool.not_false, Bool.false_eq_true, decide_eq_true_eq, ge_iff_le, gt_iff_lt]
  simp only [cnd_eq, overlap, beq_iff_eq]
  by_cases k1 : contactCheck a = 0 <;> by_cases k2 : contactCheck b = 0 <;> by_cases k3 : a.frm = b.frm <;> by_cases k4 : a.to = b.to <;> simp [k1, k2, k3, k4]
  have o1 := contact_ok k1
  have o2 := contact_ok k2
  by_cases h : a.start < b.stop
  · simp only [h, if_true, Option.some.injEq, List.cons.injEq, Tree.bool.injEq, and_true, decide_eq_decide]
    omega
  · simp only [h, if_false, Option.some.injEq, List.cons.injEq, Tree.bool.injEq, and_true]
    symm
    simp only [decide_eq_false_iff_not]
    omega

/-! ### busy -/
def busy (l : List Booking) (k : Int) : List Span := l.filterMap fun b => if b.contact = k then some ⟨b.beg, b.stop⟩ else none

theorem s22 (l : List Booking) (k : Int) (hl : l.length ≤ 1000000) : Runs C 22 [.sl 4 (l.map Booking.enc), tI k] [.sl 2 ((busy l k).map Span.enc)] := by
  refine Runs.of (fun n => e22 n _ _) ?_
  refine loop_over l (fun i (s : List Span) => (([.sref 0 s.length 0 s.length, .t (tI i)], [.row false s.length 2 (s.map Span.enc)]) : List AV × Heap))
    (fun i s x => .next (s ++ (if x.contact = k then some (⟨x.beg, x.stop⟩ : Span) else none).toList)) (fun s => [.sl 2 (s.map Span.enc)]) (fun i s => s.length ≤ i ∧ i ≤ l.length) [] rfl
    (by simp) ?_ (fun i s x hx hI => Ev.of fun n again => ?_) (fun i s x s' hx hI h => ?_) (fun s hI => Ev.of fun n again => ?_)
  · rw [runL_fold, foldl_filterMap (fun x : Booking => if x.contact = k then some (⟨x.beg, x.stop⟩ : Span) else none)]; rfl
  · have hi := lt_of_some hx
    simp only [vI_mk, vB_mk, vS_mk, vL_mk, sVer_mk, sOff_mk, sLen_mk, oVer_mk, oEs_mk, cI_mk, cB_mk, cS_mk, cL_mk, cVer_mk, cOff_mk, cLen_mk, gI_zero, gI_succ, gB_zero, gB_succ, gS_zero, gS_succ, gL_zero, gL_succ, okI_zero, okI_succ, okB_zero, okB_succ, okS_zero, okS_succ, okL_zero, okL_succ, isIntT_int, isBoolT_bool, isStrT_str, isSlT_sl, intOf_int, boolOf_bool, strOf_str, slOf_sl, treeOf_t, srVer_sref, srOff_sref, srLen_sref, ver_row, esOf_row, cellOf_box, List.getD_cons_zero, List.getD_cons_succ, decide_true, decide_false, cnd_true, cnd_false, true_and, and_true, false_and, and_false, Option.bind_some, Option.bind_none, List.length_cons, List.length_nil, List.length_map, List.getElem?_map, Option.map_some, Option.map_none, Int.toNat_natCast, reduceCtorEq, eq_self, if_true, if_false, Nat.zero_add, Nat.reduceAdd, Nat.reduceEqDiff, Int.natCast_nonneg, List.drop_zero, or_true, true_or, or_false, false_or, Bool.not_true, Bool.not_false, Bool.false_eq_true, decide_eq_true_eq, ge_iff_le, gt_iff_lt, hx, Booking.enc, Rd.go_next]
    rw [cnd_pos (by omega), w64_succ (by omega)]
    by_cases hk : x.contact = k
    · simp only [hk, beq_self_eq_true, cnd_true, if_true]
      rw [cnd_pos (by omega)]
      simp [Span.enc]
    · simp [hk, cnd_eq]
  · have hi := lt_of_some hx
    simp only [Rd.next.injEq] at h
    subst h
    split <;> simp at * <;> omega
  · simp only [List.length_map, vI_mk, vB_mk, vS_mk, vL_mk, sVer_mk, sOff_mk, sLen_mk, oVer_mk, oEs_mk, cI_mk, cB_mk, cS_mk, cL_mk, cVer_mk, cOff_mk, cLen_mk, gI_zero, gI_succ, gB_zero, gB_succ, gS_zero, gS_succ, gL_zero, gL_succ, okI_zero, okI_succ, okB_zero, okB_succ, okS_zero, okS_succ, okL_zero, okL_succ, isIntT_int, isBoolT_bool, isStrT_str, isSlT_sl, intOf_int, boolOf_bool, strOf_str, slOf_sl, treeOf_t, srVer_sref, srOff_sref, srLen_sref, ver_row, esOf_row, cellOf_box, List.getD_cons_zero, List.getD_cons_succ, decide_true, decide_false, cnd_true, cnd_false, true_and, and_true, false_and, and_false, Option.bind_some, Option.bind_none, List.length_cons, List.length_nil, List.length_map, List.getElem?_map, Option.map_some, Option.map_none, Int.toNat_natCast, reduceCtorEq, eq_self, if_true, if_false, Nat.zero_add, Nat.reduceAdd, Nat.reduceEqDiff, Int.natCast_nonneg, List.drop_zero, or_true, true_or, or_false, false_or, Bool.not_true, Bool.not_false, Bool.false_eq_true, decide_eq_true_eq, ge_iff_le, gt_iff_lt]
    rw [cnd_neg (by omega)]
    simp [← List.map_take]

theorem s23 (l : List Booking) (k : Int) (hl : l.length ≤ 1000000) : Runs C 23 [.sl 4 (l.map Booking.enc), tI k] [.sl 2 ((busy l k).map Span.enc)] := by
  refine Runs.of (fun n => e23 n _ _) ?_
  refine loop_over l (fun i (s : List Span) => (([.sref 0 s.length 0 s.length, .t (tI i)], [.row false s.length 2 (s.map Span.enc)]) : List AV × Heap))
    (fun i s x => .next (s ++ (if x.contact = k then some (⟨x.beg, x.stop⟩ : Span) else none).toList)) (fun s => [.sl 2 (s.map Span.enc)]) (fun i s => s.length ≤ i ∧ i ≤ l.length) [] rfl
    (by simp) ?_ (fun i s x hx hI => Ev.of fun n again => ?_) (fun i s x s' hx hI h => ?_) (fun s hI => Ev.of fun n again => ?_)
  · rw [runL_fold, foldl_filterMap (fun x : Booking => if x.contact = k then some (⟨x.beg, x.stop⟩ : Span) else none)]; rfl
  · have hi := lt_of_some hx
    simp only [vI_mk, vB_mk, vS_mk, vL_mk, sVer_mk, sOff_mk, sLen_mk, oVer_mk, oEs_mk, cI_mk, cB_mk, cS_mk, cL_mk, cVer_mk, cOff_mk, cLen_mk, gI_zero, gI_succ, gB_zero, gB_succ, gS_zero, gS_succ, gL_zero, gL_succ, okI_zero, okI_succ, okB_zero, okB_succ, okS_zero, okS_succ, okL_zero, okL_succ, isIntT_int, isBoolT_bool, isStrT_str, isSlT_sl, intOf_int, boolOf_bool, strOf_str, slOf_sl, treeOf_t, srVer_sref, srOff_sref, srLen_sref, ver_row, esOf_row, cellOf_box, List.getD_cons_zero, List.getD_cons_succ, decide_true, decide_false, cnd_true, cnd_false, true_and, and_true, false_and, and_false, Option.bind_some, Option.bind_none, List.length_cons, List.length_nil, List.length_map, List.getElem?_map, Option.map_some, Option.map_none, Int.toNat_natCast, reduceCtorEq, eq_self, if_true, if_false, Nat.zero_add, Nat.reduceAdd, Nat.reduceEqDiff, Int.natCast_nonneg, List.drop_zero, or_true, true_or, or_false, false_or, Bool.not_true, Bool.not_false, Bool.false_eq_true, decide_eq_true_eq, ge_iff_le, gt_iff_lt, hx, Booking.enc, Rd.go_next]
    rw [cnd_pos (by omega), w64_succ (by omega)]
    by_cases hk : x.contact = k
    · simp only [hk, beq_self_eq_true, cnd_true, if_true]
      rw [cnd_pos (by omega)]
      simp [Span.enc]
    · simp [hk, cnd_eq]
  · have hi := lt_of_some hx
    simp only [Rd.next.injEq] at h
    subst h
    split <;> simp at * <;> omega
  · simp only [List.length_map, vI_mk, vB_mk, vS_mk, vL_mk, sVer_mk, sOff_mk, sLen_mk, oVer_mk, oEs_mk, cI_mk, cB_mk, cS_mk, cL_mk, cVer_mk, cOff_mk, cLen_mk, gI_zero, gI_succ, gB_zero, gB_succ, gS_zero, gS_succ, gL_zero, gL_succ, okI_zero, okI_succ, okB_zero, okB_succ, okS_zero, okS_succ, okL_zero, okL_succ, isIntT_int, isBoolT_bool, isStrT_str, isSlT_sl, intOf_int, boolOf_bool, strOf_str, slOf_sl, treeOf_t, srVer_sref, srOff_sref, srLen_sref, ver_row, esOf_row, cellOf_box, List.getD_cons_zero, List.getD_cons_succ, decide_true, decide_false, cnd_true, cnd_false, true_and, and_true, false_and, and_false, Option.bind_some, Option.bind_none, List.length_cons, List.length_nil, List.length_map, List.getElem?_map, Option.map_some, Option.map_none, Int.toNat_natCast, reduceCtorEq, eq_self, if_true, if_false, Nat.zero_add, Nat.reduceAdd, Nat.reduceEqDiff, Int.natCast_nonneg, List.drop_zero, or_true, true_or, or_false, false_or, Bool.not_true, Bool.not_false, Bool.false_eq_true, decide_eq_true_eq, ge_iff_le, gt_iff_lt]
    rw [cnd_neg (by omega)]
    simp [← List.map_take]
end Ab
