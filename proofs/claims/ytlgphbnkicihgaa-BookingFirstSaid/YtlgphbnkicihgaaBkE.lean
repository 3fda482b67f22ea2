/- Booking: free intervals, fitting. -/
import Derived.Test.YtlgphbnkicihgaaBkD
set_option linter.unusedVariables false
set_option linter.unusedSimpArgs false
namespace Ab
open Go

def durT (c : Contact) (n : Int) : Int := passT c n + c.loss * (2 * c.rng + 1 + ticks c 16)
theorem durT_bound {c : Contact} (hc : contactCheck c = 0) {n : Int} (h0 : 0 ≤ n) (h1 : n ≤ 65536) : 0 ≤ durT c n ∧ durT c n ≤ 67108864 := by
  have o := contact_ok hc
  have a := ticks_bound (c := c) (by omega) (n := 16) (by omega) (by omega)
  have p := passT_bound (c := c) (by omega) h0 h1
  unfold durT
  have m1 : 0 ≤ c.loss * (2 * c.rng + 1 + ticks c 16) := Int.mul_nonneg (by omega) (by omega)
  have m2 : c.loss * (2 * c.rng + 1 + ticks c 16) ≤ 16 * (2 * c.rng + 1 + ticks c 16) := Int.mul_le_mul_of_nonneg_right (by omega) (by omega)
  omega
theorem dur_eq {c : Contact} (hc : contactCheck c = 0) {n : Int} (h0 : 0 ≤ n) (h1 : n ≤ 65536) : w64 (passT c n + w64 (c.loss * w64 (w64 (w64 (2 * c.rng) + 1) + ticks c 16))) = durT c n := by
  have o := contact_ok hc
  have a := ticks_bound (c := c) (by omega) (n := 16) (by omega) (by omega)
  have p := passT_bound (c := c) (by omega) h0 h1
  have b := durT_bound hc h0 h1
  have m1 : 0 ≤ c.loss * (2 * c.rng + 1 + ticks c 16) := Int.mul_nonneg (by omega) (by omega)
  unfold durT at b
  rw [w64_id (x := 2 * c.rng) (by omega) (by omega), w64_id (x := 2 * c.rng + 1) (by omega) (by omega), w64_id (x := 2 * c.rng + 1 + _) (by omega) (by omega), w64_id (x := c.loss * _) (by omega) (by omega), w64_id (by omega) (by omega)]
  rfl
theorem s51 (c : Contact) (hc : contactCheck c = 0) (n : Int) (h0 : 0 ≤ n) (h1 : n ≤ 65536) : Runs C 51 (c.enc ++ [tI n]) [tI (durT c n)] := by
  have o := contact_ok hc
  refine Runs.of (fun n => e51 n _ _ _ _ _ _ _ _) ?_
  refine ((s73 c (by omega) n h0 h1).and (s74 c (by omega) 16 (by omega) (by omega))).mono fun m ⟨k1, k2⟩ => ?_
  simp only [Contact.enc, List.cons_append, List.nil_append] at k1 k2
  simp only [k1, k2, vI_mk, vB_mk, vS_mk, vL_mk, sVer_mk, sOff_mk, sLen_mk, oVer_mk, oEs_mk, cI_mk, cB_mk, cS_mk, cL_mk, cVer_mk, cOff_mk, cLen_mk, gI_zero, gI_succ, gB_zero, gB_succ, gS_zero, gS_succ, gL_zero, gL_succ, okI_zero, okI_succ, okB_zero, okB_succ, okS_zero, okS_succ, okL_zero, okL_succ, isIntT_int, isBoolT_bool, isStrT_str, isSlT_sl, intOf_int, boolOf_bool, strOf_str, slOf_sl, treeOf_t, srVer_sref, srOff_sref, srLen_sref, ver_row, esOf_row, cellOf_box, List.getD_cons_zero, List.getD_cons_succ, decide_true, decide_false, cnd_true, cnd_false, true_and, and_true, false_and, and_false, Option.bind_some, Option.bind_none, List.length_cons, List.length_nil, List.length_map, List.getElem?_map, Option.map_some, Option.map_none, Int.toNat_natCast, reduceCtorEq, eq_self, if_true, if_false, Nat.zero_add, Nat.reduceAdd, Nat.reduceEqDiff, Int.natCast_nonneg, List.drop_zero, or_true, true_or, or_false, false_or, Bool.not_true, Bool.not_false, Bool.false_eq_true, decide_eq_true_eq, ge_iff_le, gt_iff_lt, dur_eq hc h0 h1]
theorem s44 (c : Contact) (hc : contactCheck c = 0) (n : Int) (h0 : 0 ≤ n) (h1 : n ≤ 65536) : Runs C 44 (c.enc ++ [tI n]) [tI (durT c n)] := by
  have o := contact_ok hc
  refine Runs.of (fun n => e44 n _ _ _ _ _ _ _ _) ?_
  refine ((s62 c (by omega) n h0 h1).and (s63 c (by omega) 16 (by omega) (by omega))).mono fun m ⟨k1, k2⟩ => ?_
  simp only [Contact.enc, List.cons_append, List.nil_append] at k1 k2
  simp only [k1, k2, vI_mk, vB_mk, vS_mk, vL_mk, sVer_mk, sOff_mk, sLen_mk, oVer_mk, oEs_mk, cI_mk, cB_mk, cS_mk, cL_mk, cVer_mk, cOff_mk, cLen_mk, gI_zero, gI_succ, gB_zero, gB_succ, gS_zero, gS_succ, gL_zero, gL_succ, okI_zero, okI_succ, okB_zero, okB_succ, okS_zero, okS_succ, okL_zero, okL_succ, isIntT_int, isBoolT_bool, isStrT_str, isSlT_sl, intOf_int, boolOf_bool, strOf_str, slOf_sl, treeOf_t, srVer_sref, srOff_sref, srLen_sref, ver_row, esOf_row, cellOf_box, List.getD_cons_zero, List.getD_cons_succ, decide_true, decide_false, cnd_true, cnd_false, true_and, and_true, false_and, and_false, Option.bind_some, Option.bind_none, List.length_cons, List.length_nil, List.length_map, List.getElem?_map, Option.map_some, Option.map_none, Int.toNat_natCast, reduceCtorEq, eq_self, if_true, if_false, Nat.zero_add, Nat.reduceAdd, Nat.reduceEqDiff, Int.natCast_nonneg, List.drop_zero, or_true, true_or, or_false, false_or, Bool.not_true, Bool.not_false, Bool.false_eq_true, decide_eq_true_eq, ge_iff_le, gt_iff_lt, dur_eq hc h0 h1]
def durCheck (c : Contact) (n : Int) : Int := if contactCheck c ≠ 0 then 1 else if 1 ≤ n ∧ n ≤ 65536 then 0 else 2
theorem s50 (c : Contact) (n : Int) : Runs C 50 (c.enc ++ [tI n]) [tI (durCheck c n)] := by
  refine Runs.of (fun n => e50 n _ _ _ _ _ _ _ _) ?_
  refine ((s64 c).and (s72 n 1 65536)).mono fun m ⟨k1, k2⟩ => ?_
  simp only [Contact.enc] at k1
  simp only [k1, k2, vI_mk, vB_mk, vS_mk, vL_mk, sVer_mk, sOff_mk, sLen_mk, oVer_mk, oEs_mk, cI_mk, cB_mk, cS_mk, cL_mk, cVer_mk, cOff_mk, cLen_mk, gI_zero, gI_succ, gB_zero, gB_succ, gS_zero, gS_succ, gL_zero, gL_succ, okI_zero, okI_succ, okB_zero, okB_succ, okS_zero, okS_succ, okL_zero, okL_succ, isIntT_int, isBoolT_bool, isStrT_str, isSlT_sl, intOf_int, boolOf_bool, strOf_str, slOf_sl, treeOf_t, srVer_sref, srOff_sref, srLen_sref, ver_row, esOf_row, cellOf_box, List.getD_cons_zero, List.getD_cons_succ, decide_true, decide_false, cnd_true, cnd_false, true_and, and_true, false_and, and_false, Option.bind_some, Option.bind_none, List.length_cons, List.length_nil, List.length_map, List.getElem?_map, Option.map_some, Option.map_none, Int.toNat_natCast, reduceCtorEq, eq_self, if_true, if_false, Nat.zero_add, Nat.reduceAdd, Nat.reduceEqDiff, Int.natCast_nonneg, List.drop_zero, or_true, true_or, or_false, false_or, Bool.not_true, Bool.not_false, Bool.false_eq_true, decide_eq_true_eq, ge_iff_le, gt_iff_lt, tI_cnd, durCheck]
  congr 3
  simp only [bne_iff_ne, Bool.not_eq_true', decide_eq_false_iff_not]
  grind
theorem s25 (c : Contact) (n : Int) : Runs C 25 (c.enc ++ [tI n]) [tI (if durCheck c n = 0 then durT c n else 0), tI (durCheck c n)] := by
  refine Runs.of (fun n => e25 n _ _ _ _ _ _ _ _) ?_
  by_cases h : durCheck c n = 0
  · have h2 : contactCheck c = 0 ∧ 1 ≤ n ∧ n ≤ 65536 := by simp only [durCheck] at h; grind
    refine ((s50 c n).and (s51 c h2.1 n (by omega) (by omega))).mono fun m ⟨k1, k2⟩ => ?_
    simp only [Contact.enc, List.cons_append, List.nil_append] at k1 k2
    simp only [k1, k2, vI_mk, vB_mk, vS_mk, vL_mk, sVer_mk, sOff_mk, sLen_mk, oVer_mk, oEs_mk, cI_mk, cB_mk, cS_mk, cL_mk, cVer_mk, cOff_mk, cLen_mk, gI_zero, gI_succ, gB_zero, gB_succ, gS_zero, gS_succ, gL_zero, gL_succ, okI_zero, okI_succ, okB_zero, okB_succ, okS_zero, okS_succ, okL_zero, okL_succ, isIntT_int, isBoolT_bool, isStrT_str, isSlT_sl, intOf_int, boolOf_bool, strOf_str, slOf_sl, treeOf_t, srVer_sref, srOff_sref, srLen_sref, ver_row, esOf_row, cellOf_box, List.getD_cons_zero, List.getD_cons_succ, decide_true, decide_false, cnd_true, cnd_false, true_and, and_true, false_and, and_false, Option.bind_some, Option.bind_none, List.length_cons, List.length_nil, List.length_map, List.getElem?_map, Option.map_some, Option.map_none, Int.toNat_natCast, reduceCtorEq, eq_self, if_true, if_false, Nat.zero_add, Nat.reduceAdd, Nat.reduceEqDiff, Int.natCast_nonneg, List.drop_zero, or_true, true_or, or_false, false_or, Bool.not_true, Bool.not_false, Bool.false_eq_true, decide_eq_true_eq, ge_iff_le, gt_iff_lt, h, bne_self_eq_false]
  · refine (s50 c n).mono fun m k1 => ?_
    simp only [Contact.enc, List.cons_append, List.nil_append] at k1
    simp only [k1, vI_mk, vB_mk, vS_mk, vL_mk, sVer_mk, sOff_mk, sLen_mk, oVer_mk, oEs_mk, cI_mk, cB_mk, cS_mk, cL_mk, cVer_mk, cOff_mk, cLen_mk, gI_zero, gI_succ, gB_zero, gB_succ, gS_zero, gS_succ, gL_zero, gL_succ, okI_zero, okI_succ, okB_zero, okB_succ, okS_zero, okS_succ, okL_zero, okL_succ, isIntT_int, isBoolT_bool, isStrT_str, isSlT_sl, intOf_int, boolOf_bool, strOf_str, slOf_sl, treeOf_t, srVer_sref, srOff_sref, srLen_sref, ver_row, esOf_row, cellOf_box, List.getD_cons_zero, List.getD_cons_succ, decide_true, decide_false, cnd_true, cnd_false, true_and, and_true, false_and, and_false, Option.bind_some, Option.bind_none, List.length_cons, List.length_nil, List.length_map, List.getElem?_map, Option.map_some, Option.map_none, Int.toNat_natCast, reduceCtorEq, eq_self, if_true, if_false, Nat.zero_add, Nat.reduceAdd, Nat.reduceEqDiff, Int.natCast_nonneg, List.drop_zero, or_true, true_or, or_false, false_or, Bool.not_true, Bool.not_false, Bool.false_eq_true, decide_eq_true_eq, ge_iff_le, gt_iff_lt, if_neg h]
    rw [cnd_pos (by simp [h])]

/-! ### the free intervals -/
def gapsL (stop : Int) : List Span → Int → List Span
  | [], at_ => if at_ < stop then [⟨at_, stop⟩] else []
  | x :: l, at_ => (if at_ < x.frm then [⟨at_, x.frm⟩] else []) ++ gapsL stop l (if at_ < x.to then x.to else at_)
def gapsR (stop : Int) : List Span → Int → List Span
  | [], at_ => if at_ < stop then [⟨at_, stop⟩] else []
  | x :: l, at_ => (if at_ < x.frm then [⟨at_, x.frm⟩] else []) ++ gapsR stop l x.to

theorem gapsL_fold (stop : Int) : ∀ (l : List Span) (i : Nat) (s : List Span × Int),
    runL (fun _ (s : List Span × Int) (x : Span) => (.next (s.1 ++ (if s.2 < x.frm then [⟨s.2, x.frm⟩] else []), if s.2 < x.to then x.to else s.2) : Rd _ (List Span))) (fun s => s.1 ++ if s.2 < stop then [⟨s.2, stop⟩] else []) i l s = s.1 ++ gapsL stop l s.2
  | [], i, s => rfl
  | x :: l, i, s => by
    simp only [runL, gapsL]
    rw [gapsL_fold stop l]
    simp
theorem gapsR_fold (stop : Int) : ∀ (l : List Span) (i : Nat) (s : List Span × Int),
    runL (fun _ (s : List Span × Int) (x : Span) => (.next (s.1 ++ (if s.2 < x.frm then [⟨s.2, x.frm⟩] else []), x.to) : Rd _ (List Span))) (fun s => s.1 ++ if s.2 < stop then [⟨s.2, stop⟩] else []) i l s = s.1 ++ gapsR stop l s.2
  | [], i, s => rfl
  | x :: l, i, s => by
    simp only [runL, gapsR]
    rw [gapsR_fold stop l]
    simp

theorem busy_len (l : List Booking) (k : Int) : (busy l k).length ≤ l.length := List.length_filterMap_le _ _

theorem s40 (q : List Int) (cs : List Contact) (l : List Booking) (k from_ : Int) (c : Contact) (hk : 0 ≤ k) (hc : cs[k.toNat]? = some c) (hl : l.length ≤ 1000000) :
    Runs C 40 [.sl 1 (q.map encI), .sl 7 (cs.map Contact.enc), .sl 4 (l.map Booking.enc), tI k, tI from_] [.sl 2 ((gapsL c.stop (busy l k) (if c.start < from_ then from_ else c.start)).map Span.enc)] := by
  refine Runs.of (fun n => e40 n _ _ _ _ _) ?_
  have hbl := busy_len l k
  refine Ev.rw (T' := ?T') (s22 l k hl) (fun n h => ?a) ?b
  case a =>
    simp only [vI_mk, vB_mk, vS_mk, vL_mk, sVer_mk, sOff_mk, sLen_mk, oVer_mk, oEs_mk, cI_mk, cB_mk, cS_mk, cL_mk, cVer_mk, cOff_mk, cLen_mk, gI_zero, gI_succ, gB_zero, gB_succ, gS_zero, gS_succ, gL_zero, gL_succ, okI_zero, okI_succ, okB_zero, okB_succ, okS_zero, okS_succ, okL_zero, okL_succ, isIntT_int, isBoolT_bool, isStrT_str, isSlT_sl, intOf_int, boolOf_bool, strOf_str, slOf_sl, treeOf_t, srVer_sref, srOff_sref, srLen_sref, ver_row, esOf_row, cellOf_box, List.getD_cons_zero, List.getD_cons_succ, decide_true, decide_false, cnd_true, cnd_false, true_and, and_true, false_and, and_false, Option.bind_some, Option.bind_none, List.length_cons, List.length_nil, List.length_map, List.getElem?_map, Option.map_some, Option.map_none, Int.toNat_natCast, reduceCtorEq, eq_self, if_true, if_false, Nat.zero_add, Nat.reduceAdd, Nat.reduceEqDiff, Int.natCast_nonneg, List.drop_zero, or_true, true_or, or_false, false_or, Bool.not_true, Bool.not_false, Bool.false_eq_true, decide_eq_true_eq, ge_iff_le, gt_iff_lt, hk, hc, Contact.enc, h]
    rfl
  case b =>
    refine loop_overQ (fun (g : List Span) => [Tree.sl 2 (g.map Span.enc)]) (busy l k) (fun i (s : List Span × Int) => (([.t (tI i)], [.box [], .row false s.1.length 2 (s.1.map Span.enc), .box [.sref 1 s.1.length 0 s.1.length], .box [.t (tI s.2)]]) : List AV × Heap))
      (fun _ s x => .next (s.1 ++ (if s.2 < x.frm then [⟨s.2, x.frm⟩] else []), if s.2 < x.to then x.to else s.2)) (fun s => s.1 ++ if s.2 < c.stop then [⟨s.2, c.stop⟩] else [])
      (fun i s => s.1.length ≤ i ∧ i ≤ (busy l k).length) ([], if c.start < from_ then from_ else c.start) rfl (by simp) ((gapsL_fold _ _ _ _).trans (List.nil_append _)) (fun i s x hx hI => Ev.of fun n again => ?_) (fun i s x s' hx hI h => ?_) (fun s hI => Ev.of fun n again => ?_)
    · have hi := lt_of_some hx
      simp only [vI_mk, vB_mk, vS_mk, vL_mk, sVer_mk, sOff_mk, sLen_mk, oVer_mk, oEs_mk, cI_mk, cB_mk, cS_mk, cL_mk, cVer_mk, cOff_mk, cLen_mk, gI_zero, gI_succ, gB_zero, gB_succ, gS_zero, gS_succ, gL_zero, gL_succ, okI_zero, okI_succ, okB_zero, okB_succ, okS_zero, okS_succ, okL_zero, okL_succ, isIntT_int, isBoolT_bool, isStrT_str, isSlT_sl, intOf_int, boolOf_bool, strOf_str, slOf_sl, treeOf_t, srVer_sref, srOff_sref, srLen_sref, ver_row, esOf_row, cellOf_box, List.getD_cons_zero, List.getD_cons_succ, decide_true, decide_false, cnd_true, cnd_false, true_and, and_true, false_and, and_false, Option.bind_some, Option.bind_none, List.length_cons, List.length_nil, List.length_map, List.getElem?_map, Option.map_some, Option.map_none, Int.toNat_natCast, reduceCtorEq, eq_self, if_true, if_false, Nat.zero_add, Nat.reduceAdd, Nat.reduceEqDiff, Int.natCast_nonneg, List.drop_zero, or_true, true_or, or_false, false_or, Bool.not_true, Bool.not_false, Bool.false_eq_true, decide_eq_true_eq, ge_iff_le, gt_iff_lt, hx, Span.enc, w64_succ (show i < 4611686018427387904 by omega), (show (i : Int) < (busy l k).length by omega), Rd.go_next, (show s.1.length + 1 ≤ 1073741824 by omega)]
      by_cases h : s.2 < x.frm
      · simp [h, cnd_eq, Span.enc]
      · simp [h, cnd_eq]
    · have hi := lt_of_some hx
      simp only [Rd.next.injEq] at h
      subst h
      simp only [List.length_append]
      split <;> simp <;> omega
    · simp only [vI_mk, vB_mk, vS_mk, vL_mk, sVer_mk, sOff_mk, sLen_mk, oVer_mk, oEs_mk, cI_mk, cB_mk, cS_mk, cL_mk, cVer_mk, cOff_mk, cLen_mk, gI_zero, gI_succ, gB_zero, gB_succ, gS_zero, gS_succ, gL_zero, gL_succ, okI_zero, okI_succ, okB_zero, okB_succ, okS_zero, okS_succ, okL_zero, okL_succ, isIntT_int, isBoolT_bool, isStrT_str, isSlT_sl, intOf_int, boolOf_bool, strOf_str, slOf_sl, treeOf_t, srVer_sref, srOff_sref, srLen_sref, ver_row, esOf_row, cellOf_box, List.getD_cons_zero, List.getD_cons_succ, decide_true, decide_false, cnd_true, cnd_false, true_and, and_true, false_and, and_false, Option.bind_some, Option.bind_none, List.length_cons, List.length_nil, List.length_map, List.getElem?_map, Option.map_some, Option.map_none, Int.toNat_natCast, reduceCtorEq, eq_self, if_true, if_false, Nat.zero_add, Nat.reduceAdd, Nat.reduceEqDiff, Int.natCast_nonneg, List.drop_zero, or_true, true_or, or_false, false_or, Bool.not_true, Bool.not_false, Bool.false_eq_true, decide_eq_true_eq, ge_iff_le, gt_iff_lt, Int.lt_irrefl, (show s.1.length + 1 ≤ 1073741824 by omega)]
      by_cases h : s.2 < c.stop
      · simp only [h, vI_mk, vB_mk, vS_mk, vL_mk, sVer_mk, sOff_mk, sLen_mk, oVer_mk, oEs_mk, cI_mk, cB_mk, cS_mk, cL_mk, cVer_mk, cOff_mk, cLen_mk, gI_zero, gI_succ, gB_zero, gB_succ, gS_zero, gS_succ, gL_zero, gL_succ, okI_zero, okI_succ, okB_zero, okB_succ, okS_zero, okS_succ, okL_zero, okL_succ, isIntT_int, isBoolT_bool, isStrT_str, isSlT_sl, intOf_int, boolOf_bool, strOf_str, slOf_sl, treeOf_t, srVer_sref, srOff_sref, srLen_sref, ver_row, esOf_row, cellOf_box, List.getD_cons_zero, List.getD_cons_succ, decide_true, decide_false, cnd_true, cnd_false, true_and, and_true, false_and, and_false, Option.bind_some, Option.bind_none, List.length_cons, List.length_nil, List.length_map, List.getElem?_map, Option.map_some, Option.map_none, Int.toNat_natCast, reduceCtorEq, eq_self, if_true, if_false, Nat.zero_add, Nat.reduceAdd, Nat.reduceEqDiff, Int.natCast_nonneg, List.drop_zero, or_true, true_or, or_false, false_or, Bool.not_true, Bool.not_false, Bool.false_eq_true, decide_eq_true_eq, ge_iff_le, gt_iff_lt, List.map_append, List.map_cons, List.map_nil, Span.enc]
        rw [List.take_of_length_le (by simp)]
      · simp only [h, vI_mk, vB_mk, vS_mk, vL_mk, sVer_mk, sOff_mk, sLen_mk, oVer_mk, oEs_mk, cI_mk, cB_mk, cS_mk, cL_mk, cVer_mk, cOff_mk, cLen_mk, gI_zero, gI_succ, gB_zero, gB_succ, gS_zero, gS_succ, gL_zero, gL_succ, okI_zero, okI_succ, okB_zero, okB_succ, okS_zero, okS_succ, okL_zero, okL_succ, isIntT_int, isBoolT_bool, isStrT_str, isSlT_sl, intOf_int, boolOf_bool, strOf_str, slOf_sl, treeOf_t, srVer_sref, srOff_sref, srLen_sref, ver_row, esOf_row, cellOf_box, List.getD_cons_zero, List.getD_cons_succ, decide_true, decide_false, cnd_true, cnd_false, true_and, and_true, false_and, and_false, Option.bind_some, Option.bind_none, List.length_cons, List.length_nil, List.length_map, List.getElem?_map, Option.map_some, Option.map_none, Int.toNat_natCast, reduceCtorEq, eq_self, if_true, if_false, Nat.zero_add, Nat.reduceAdd, Nat.reduceEqDiff, Int.natCast_nonneg, List.drop_zero, or_true, true_or, or_false, false_or, Bool.not_true, Bool.not_false, Bool.false_eq_true, decide_eq_true_eq, ge_iff_le, gt_iff_lt, List.append_nil]
        rw [List.take_of_length_le (by simp)]

theorem s43 (q : List Int) (cs : List Contact) (l : List Booking) (k : Int) (c : Contact) (hk : 0 ≤ k) (hc : cs[k.toNat]? = some c) (hl : l.length ≤ 1000000) :
    Runs C 43 [.sl 1 (q.map encI), .sl 7 (cs.map Contact.enc), .sl 4 (l.map Booking.enc), tI k] [.sl 2 ((gapsR c.stop (busy l k) c.start).map Span.enc)] := by
  refine Runs.of (fun n => e43 n _ _ _ _) ?_
  have hbl := busy_len l k
  refine Ev.rw (T' := ?T') (s23 l k hl) (fun n h => ?a) ?b
  case a =>
    simp only [vI_mk, vB_mk, vS_mk, vL_mk, sVer_mk, sOff_mk, sLen_mk, oVer_mk, oEs_mk, cI_mk, cB_mk, cS_mk, cL_mk, cVer_mk, cOff_mk, cLen_mk, gI_zero, gI_succ, gB_zero, gB_succ, gS_zero, gS_succ, gL_zero, gL_succ, okI_zero, okI_succ, okB_zero, okB_succ, okS_zero, okS_succ, okL_zero, okL_succ, isIntT_int, isBoolT_bool, isStrT_str, isSlT_sl, intOf_int, boolOf_bool, strOf_str, slOf_sl, treeOf_t, srVer_sref, srOff_sref, srLen_sref, ver_row, esOf_row, cellOf_box, List.getD_cons_zero, List.getD_cons_succ, decide_true, decide_false, cnd_true, cnd_false, true_and, and_true, false_and, and_false, Option.bind_some, Option.bind_none, List.length_cons, List.length_nil, List.length_map, List.getElem?_map, Option.map_some, Option.map_none, Int.toNat_natCast, reduceCtorEq, eq_self, if_true, if_false, Nat.zero_add, Nat.reduceAdd, Nat.reduceEqDiff, Int.natCast_nonneg, List.drop_zero, or_true, true_or, or_false, false_or, Bool.not_true, Bool.not_false, Bool.false_eq_true, decide_eq_true_eq, ge_iff_le, gt_iff_lt, hk, hc, Contact.enc, h]
    rfl
  case b =>
    refine loop_overQ (fun (g : List Span) => [Tree.sl 2 (g.map Span.enc)]) (busy l k) (fun i (s : List Span × Int) => (([.sref 0 s.1.length 0 s.1.length, .t (tI s.2), .t (tI i)], [.row false s.1.length 2 (s.1.map Span.enc)]) : List AV × Heap))
      (fun _ s x => .next (s.1 ++ (if s.2 < x.frm then [⟨s.2, x.frm⟩] else []), x.to)) (fun s => s.1 ++ if s.2 < c.stop then [⟨s.2, c.stop⟩] else [])
      (fun i s => s.1.length ≤ i ∧ i ≤ (busy l k).length) ([], c.start) rfl (by simp) ((gapsR_fold _ _ _ _).trans (List.nil_append _)) (fun i s x hx hI => Ev.of fun n again => ?_) (fun i s x s' hx hI h => ?_) (fun s hI => Ev.of fun n again => ?_)
    · have hi := lt_of_some hx
      simp only [vI_mk, vB_mk, vS_mk, vL_mk, sVer_mk, sOff_mk, sLen_mk, oVer_mk, oEs_mk, cI_mk, cB_mk, cS_mk, cL_mk, cVer_mk, cOff_mk, cLen_mk, gI_zero, gI_succ, gB_zero, gB_succ, gS_zero, gS_succ, gL_zero, gL_succ, okI_zero, okI_succ, okB_zero, okB_succ, okS_zero, okS_succ, okL_zero, okL_succ, isIntT_int, isBoolT_bool, isStrT_str, isSlT_sl, intOf_int, boolOf_bool, strOf_str, slOf_sl, treeOf_t, srVer_sref, srOff_sref, srLen_sref, ver_row, esOf_row, cellOf_box, List.getD_cons_zero, List.getD_cons_succ, decide_true, decide_false, cnd_true, cnd_false, true_and, and_true, false_and, and_false, Option.bind_some, Option.bind_none, List.length_cons, List.length_nil, List.length_map, List.getElem?_map, Option.map_some, Option.map_none, Int.toNat_natCast, reduceCtorEq, eq_self, if_true, if_false, Nat.zero_add, Nat.reduceAdd, Nat.reduceEqDiff, Int.natCast_nonneg, List.drop_zero, or_true, true_or, or_false, false_or, Bool.not_true, Bool.not_false, Bool.false_eq_true, decide_eq_true_eq, ge_iff_le, gt_iff_lt, hx, Span.enc, w64_succ (show i < 4611686018427387904 by omega), (show (i : Int) < (busy l k).length by omega), Rd.go_next, (show s.1.length + 1 ≤ 1073741824 by omega)]
      by_cases h : s.2 < x.frm
      · simp [h, cnd_eq, Span.enc]
      · simp [h, cnd_eq]
    · have hi := lt_of_some hx
      simp only [Rd.next.injEq] at h
      subst h
      simp only [List.length_append]
      split <;> simp <;> omega
    · simp only [vI_mk, vB_mk, vS_mk, vL_mk, sVer_mk, sOff_mk, sLen_mk, oVer_mk, oEs_mk, cI_mk, cB_mk, cS_mk, cL_mk, cVer_mk, cOff_mk, cLen_mk, gI_zero, gI_succ, gB_zero, gB_succ, gS_zero, gS_succ, gL_zero, gL_succ, okI_zero, okI_succ, okB_zero, okB_succ, okS_zero, okS_succ, okL_zero, okL_succ, isIntT_int, isBoolT_bool, isStrT_str, isSlT_sl, intOf_int, boolOf_bool, strOf_str, slOf_sl, treeOf_t, srVer_sref, srOff_sref, srLen_sref, ver_row, esOf_row, cellOf_box, List.getD_cons_zero, List.getD_cons_succ, decide_true, decide_false, cnd_true, cnd_false, true_and, and_true, false_and, and_false, Option.bind_some, Option.bind_none, List.length_cons, List.length_nil, List.length_map, List.getElem?_map, Option.map_some, Option.map_none, Int.toNat_natCast, reduceCtorEq, eq_self, if_true, if_false, Nat.zero_add, Nat.reduceAdd, Nat.reduceEqDiff, Int.natCast_nonneg, List.drop_zero, or_true, true_or, or_false, false_or, Bool.not_true, Bool.not_false, Bool.false_eq_true, decide_eq_true_eq, ge_iff_le, gt_iff_lt, Int.lt_irrefl, (show s.1.length + 1 ≤ 1073741824 by omega), hk, hc, Contact.enc]
      by_cases h : s.2 < c.stop
      · simp only [h, vI_mk, vB_mk, vS_mk, vL_mk, sVer_mk, sOff_mk, sLen_mk, oVer_mk, oEs_mk, cI_mk, cB_mk, cS_mk, cL_mk, cVer_mk, cOff_mk, cLen_mk, gI_zero, gI_succ, gB_zero, gB_succ, gS_zero, gS_succ, gL_zero, gL_succ, okI_zero, okI_succ, okB_zero, okB_succ, okS_zero, okS_succ, okL_zero, okL_succ, isIntT_int, isBoolT_bool, isStrT_str, isSlT_sl, intOf_int, boolOf_bool, strOf_str, slOf_sl, treeOf_t, srVer_sref, srOff_sref, srLen_sref, ver_row, esOf_row, cellOf_box, List.getD_cons_zero, List.getD_cons_succ, decide_true, decide_false, cnd_true, cnd_false, true_and, and_true, false_and, and_false, Option.bind_some, Option.bind_none, List.length_cons, List.length_nil, List.length_map, List.getElem?_map, Option.map_some, Option.map_none, Int.toNat_natCast, reduceCtorEq, eq_self, if_true, if_false, Nat.zero_add, Nat.reduceAdd, Nat.reduceEqDiff, Int.natCast_nonneg, List.drop_zero, or_true, true_or, or_false, false_or, Bool.not_true, Bool.not_false, Bool.false_eq_true, decide_eq_true_eq, ge_iff_le, gt_iff_lt, List.map_append, List.map_cons, List.map_nil, Span.enc]
        rw [List.take_of_length_le (by simp)]
      · simp only [h, vI_mk, vB_mk, vS_mk, vL_mk, sVer_mk, sOff_mk, sLen_mk, oVer_mk, oEs_mk, cI_mk, cB_mk, cS_mk, cL_mk, cVer_mk, cOff_mk, cLen_mk, gI_zero, gI_succ, gB_zero, gB_succ, gS_zero, gS_succ, gL_zero, gL_succ, okI_zero, okI_succ, okB_zero, okB_succ, okS_zero, okS_succ, okL_zero, okL_succ, isIntT_int, isBoolT_bool, isStrT_str, isSlT_sl, intOf_int, boolOf_bool, strOf_str, slOf_sl, treeOf_t, srVer_sref, srOff_sref, srLen_sref, ver_row, esOf_row, cellOf_box, List.getD_cons_zero, List.getD_cons_succ, decide_true, decide_false, cnd_true, cnd_false, true_and, and_true, false_and, and_false, Option.bind_some, Option.bind_none, List.length_cons, List.length_nil, List.length_map, List.getElem?_map, Option.map_some, Option.map_none, Int.toNat_natCast, reduceCtorEq, eq_self, if_true, if_false, Nat.zero_add, Nat.reduceAdd, Nat.reduceEqDiff, Int.natCast_nonneg, List.drop_zero, or_true, true_or, or_false, false_or, Bool.not_true, Bool.not_false, Bool.false_eq_true, decide_eq_true_eq, ge_iff_le, gt_iff_lt, List.append_nil]
        rw [List.take_of_length_le (by simp)]
end Ab
