/- Booking: busy and free intervals part a contact's time; the law BookingPartition. -/
import Derived.Test.YtlgphbnkicihgaaBkI
set_option linter.unusedVariables false
set_option linter.unusedSimpArgs false
namespace Ab
open Go

def hits (t : Int) (x : Span) : Bool := decide (x.frm ≤ t ∧ t < x.to)
def cnt (l : List Span) (t : Int) : Nat := l.countP (hits t)

theorem s24 (l : List Span) (t : Int) (hl : l.length ≤ 1000000) : Runs C 24 [.sl 2 (l.map Span.enc), tI t] [tI (cnt l t)] := by
  refine Runs.of (fun n => e24 n _ _) ?_
  refine loop_overQ (fun (r : Nat) => [tI r]) l (fun i (s : Nat) => (([.t (tI s), .t (tI i)], []) : List AV × Heap)) (fun _ s x => .next (if hits t x = true then s + 1 else s)) (fun s => s) (fun i s => s ≤ i) 0 rfl (by simp) ?_
    (fun i s x hx hI => Ev.of fun n again => ?_) (fun i s x s' hx hI h => ?_) (fun s hI => Ev.of fun n again => ?_)
  · rw [runL_fold]
    have : ∀ (l : List Span) (s : Nat), l.foldl (fun s x => if hits t x = true then s + 1 else s) s = s + l.countP (hits t) := by
      intro l
      induction l with
      | nil => intro s; rfl
      | cons x l ih =>
        intro s
        rw [List.foldl_cons, ih]
        by_cases h : hits t x = true
        · rw [if_pos h, List.countP_cons_of_pos h]; omega
        · rw [if_neg h, List.countP_cons_of_neg h]
    rw [this]
    simp [cnt]
  · have hi := lt_of_some hx
    simp only [vI_mk, vB_mk, vS_mk, vL_mk, sVer_mk, sOff_mk, sLen_mk, oVer_mk, oEs_mk, cI_mk, cB_mk, cS_mk, cL_mk, cVer_mk, cOff_mk, cLen_mk, gI_zero, gI_succ, gB_zero, gB_succ, gS_zero, gS_succ, gL_zero, gL_succ, okI_zero, okI_succ, okB_zero, okB_succ, okS_zero, okS_succ, okL_zero, okL_succ, isIntT_int, isBoolT_bool, isStrT_str, isSlT_sl, intOf_int, boolOf_bool, strOf_str, slOf_sl, treeOf_t, srVer_sref, srOff_sref, srLen_sref, ver_row, esOf_row, cellOf_box, List.getD_cons_zero, List.getD_cons_succ, decide_true, decide_false, cnd_true, cnd_false, true_and, and_true, false_and, and_false, Option.bind_some, Option.bind_none, List.length_cons, List.length_nil, List.length_map, List.getElem?_map, Option.map_some, Option.map_none, Int.toNat_natCast, reduceCtorEq, eq_self, if_true, if_false, Nat.zero_add, Nat.reduceAdd, Nat.reduceEqDiff, Int.natCast_nonneg, List.drop_zero, or_true, true_or, or_false, false_or, Bool.not_true, Bool.not_false, Bool.false_eq_true, decide_eq_true_eq, ge_iff_le, gt_iff_lt, hx, Span.enc, w64_succ (show i < 4611686018427387904 by omega), w64_succ (show s < 4611686018427387904 by omega), (show (i : Int) < l.length by omega), Rd.go_next, hits]
    simp only [cnd_eq]
    grind
  · simp only [Rd.next.injEq] at h
    subst h
    split <;> omega
  · simp only [vI_mk, vB_mk, vS_mk, vL_mk, sVer_mk, sOff_mk, sLen_mk, oVer_mk, oEs_mk, cI_mk, cB_mk, cS_mk, cL_mk, cVer_mk, cOff_mk, cLen_mk, gI_zero, gI_succ, gB_zero, gB_succ, gS_zero, gS_succ, gL_zero, gL_succ, okI_zero, okI_succ, okB_zero, okB_succ, okS_zero, okS_succ, okL_zero, okL_succ, isIntT_int, isBoolT_bool, isStrT_str, isSlT_sl, intOf_int, boolOf_bool, strOf_str, slOf_sl, treeOf_t, srVer_sref, srOff_sref, srLen_sref, ver_row, esOf_row, cellOf_box, List.getD_cons_zero, List.getD_cons_succ, decide_true, decide_false, cnd_true, cnd_false, true_and, and_true, false_and, and_false, Option.bind_some, Option.bind_none, List.length_cons, List.length_nil, List.length_map, List.getElem?_map, Option.map_some, Option.map_none, Int.toNat_natCast, reduceCtorEq, eq_self, if_true, if_false, Nat.zero_add, Nat.reduceAdd, Nat.reduceEqDiff, Int.natCast_nonneg, List.drop_zero, or_true, true_or, or_false, false_or, Bool.not_true, Bool.not_false, Bool.false_eq_true, decide_eq_true_eq, ge_iff_le, gt_iff_lt, Int.lt_irrefl]

theorem cnt_before {stop : Int} : ∀ (l : List Span) (lo t : Int), Row stop l lo → t < lo → cnt l t = 0
  | [], _, _, _, _ => rfl
  | x :: l, lo, t, ⟨h1, h2, h3⟩, ht => by
    have ih := cnt_before l x.to t h3 (by omega)
    unfold cnt at *
    rw [List.countP_cons_of_neg (by simp [hits]; omega)]
    exact ih
theorem gaps_before {stop : Int} (l : List Span) (lo t : Int) (h : Row stop l lo) (ht : t < lo) : cnt (gapsR stop l lo) t = 0 := by
  unfold cnt
  rw [List.countP_eq_zero]
  intro x hx
  have := gapsR_mem l lo h x hx
  simp [hits]
  omega
theorem cnt_one {stop : Int} : ∀ (l : List Span) (lo t : Int), Row stop l lo → lo ≤ t → t < stop → cnt l t + cnt (gapsR stop l lo) t = 1
  | [], lo, t, h, h1, h2 => by
    simp only [gapsR, cnt]
    rw [if_pos (by omega)]
    simp [hits, h1, h2]
  | x :: l, lo, t, ⟨k1, k2, k3⟩, h1, h2 => by
    simp only [gapsR, cnt, List.countP_append]
    by_cases ht : t < x.to
    · have z1 := cnt_before l x.to t k3 ht
      have z2 := gaps_before l x.to t k3 ht
      unfold cnt at z1 z2
      rw [List.countP_cons, z1, z2]
      by_cases hg : lo < x.frm
      · rw [if_pos hg]
        by_cases hf : t < x.frm
        · (try simp [hits, hf, h1]) <;> omega
        · (try simp [hits, ht, hf]) <;> omega
      · rw [if_neg hg]
        simp [hits, ht]
        omega
    · have ih := cnt_one l x.to t k3 (by omega) h2
      unfold cnt at ih
      rw [List.countP_cons_of_neg (by simp [hits]; omega)]
      have : List.countP (hits t) (if lo < x.frm then [(⟨lo, x.frm⟩ : Span)] else []) = 0 := by
        split
        · simp [hits]; omega
        · rfl
      omega

def sumS : List Span → Int
  | [] => 0
  | x :: l => (x.to - x.frm) + sumS l
theorem sumS_app (a b : List Span) : sumS (a ++ b) = sumS a + sumS b := by
  induction a with
  | nil => simp [sumS]
  | cons x a ih => simp only [List.cons_append, sumS, ih]; omega
theorem sum_both {stop : Int} : ∀ (l : List Span) (lo : Int), Row stop l lo → sumS l + sumS (gapsR stop l lo) = stop - lo
  | [], lo, h => by
    simp only [gapsR, sumS]
    have h' : lo ≤ stop := h
    split <;> simp [sumS] <;> omega
  | x :: l, lo, ⟨k1, k2, k3⟩ => by
    have ih := sum_both l x.to k3
    simp only [gapsR, sumS, sumS_app]
    split <;> simp [sumS] <;> omega
theorem sumS_nonneg : ∀ (l : List Span), (∀ x ∈ l, x.frm < x.to) → 0 ≤ sumS l
  | [], _ => Int.le_refl _
  | x :: l, h => by
    have := sumS_nonneg l fun y hy => h y (by simp [hy])
    have := h x (by simp)
    simp only [sumS]
    omega
theorem fold_w64 : ∀ (l : List Span) (s : Int), (∀ x ∈ l, x.frm < x.to) → 0 ≤ s → s + sumS l < 9223372036854775808 → l.foldl (fun n x => w64 (n + w64 (x.to - x.frm))) s = s + sumS l
  | [], s, _, _, _ => by simp [sumS]
  | x :: l, s, h, h0, hb => by
    have h1 := h x (by simp)
    have h2 := sumS_nonneg l fun y hy => h y (by simp [hy])
    simp only [sumS] at hb ⊢
    rw [List.foldl_cons, w64_id (x := x.to - x.frm) (by omega) (by omega), w64_id (x := s + (x.to - x.frm)) (by omega) (by omega),
      fold_w64 l _ (fun y hy => h y (by simp [hy])) (by omega) (by omega)]
    omega
theorem row_mem {stop : Int} : ∀ (l : List Span) (lo : Int), Row stop l lo → ∀ x ∈ l, x.frm < x.to
  | [], _, _, x, hx => by simp at hx
  | y :: l, lo, ⟨k1, k2, k3⟩, x, hx => by
    rcases List.mem_cons.1 hx with rfl | hx
    · exact k2
    · exact row_mem l y.to k3 x hx
theorem gaps_apart {stop : Int} : ∀ (l : List Span) (lo : Int), Row stop l lo → (gapsR stop l lo).Pairwise fun a b => a.to < b.frm
  | [], lo, h => by simp only [gapsR]; split <;> simp
  | x :: l, lo, ⟨k1, k2, k3⟩ => by
    have ih := gaps_apart l x.to k3
    simp only [gapsR]
    split
    · refine List.Pairwise.cons (fun y hy => ?_) ih
      have := gapsR_mem l x.to k3 y hy
      show x.frm < y.frm
      omega
    · exact ih

theorem pairwise_next {α : Type} {R : α → α → Prop} : ∀ {l : List α}, l.Pairwise R → ∀ {i : Nat} {a b : α}, l[i]? = some a → l[i + 1]? = some b → R a b
  | x :: l, .cons h1 h2, 0, a, b, ha, hb => by
    simp at ha hb
    subst ha
    exact h1 b (List.mem_of_getElem? hb)
  | x :: l, .cons h1 h2, i + 1, a, b, ha, hb => pairwise_next h2 (by simpa using ha) (by simpa using hb)

theorem law5 (q : List Int) (cs : List Contact) (l : List Booking) (k : Int) :
    Runs C 5 [.sl 1 (q.map encI), .sl 7 (cs.map Contact.enc), .sl 4 (l.map Booking.enc), tI k] [.bool true] := by
  refine Runs.of (fun n => e5 n _ _ _ _) ?_
  by_cases hg : 6 < q.length ∨ 10 < cs.length ∨ 30 < l.length
  · refine ((s11 q cs l).and s12).mono fun n ⟨h1, h2⟩ => ?_
    simp only [h1, h2, vI_mk, vB_mk, vS_mk, vL_mk, sVer_mk, sOff_mk, sLen_mk, oVer_mk, oEs_mk, cI_mk, cB_mk, cS_mk, cL_mk, cVer_mk, cOff_mk, cLen_mk, gI_zero, gI_succ, gB_zero, gB_succ, gS_zero, gS_succ, gL_zero, gL_succ, okI_zero, okI_succ, okB_zero, okB_succ, okS_zero, okS_succ, okL_zero, okL_succ, isIntT_int, isBoolT_bool, isStrT_str, isSlT_sl, intOf_int, boolOf_bool, strOf_str, slOf_sl, treeOf_t, srVer_sref, srOff_sref, srLen_sref, ver_row, esOf_row, cellOf_box, List.getD_cons_zero, List.getD_cons_succ, decide_true, decide_false, cnd_true, cnd_false, true_and, and_true, false_and, and_false, Option.bind_some, Option.bind_none, List.length_cons, List.length_nil, List.length_map, List.getElem?_map, Option.map_some, Option.map_none, Int.toNat_natCast, reduceCtorEq, eq_self, if_true, if_false, Nat.zero_add, Nat.reduceAdd, Nat.reduceEqDiff, Int.natCast_nonneg, List.drop_zero, or_true, true_or, or_false, false_or, Bool.not_true, Bool.not_false, Bool.false_eq_true, decide_eq_true_eq, ge_iff_le, gt_iff_lt, hg]
  by_cases h0 : ckCheck q cs l k = 0
  · obtain ⟨c, hc, hk, hk2, hcc, hbo, hl⟩ := ck_ok h0
    have o := contact_ok hcc
    have hrow := busy_row hbo hc hcc
    have hbl := busy_len l k
    have hgl := gapsR_len c.stop (busy l k) c.start
    have hsum := sum_both (busy l k) c.start hrow
    have hn1 := sumS_nonneg (busy l k) (row_mem _ _ hrow)
    have hn2 := sumS_nonneg (gapsR c.stop (busy l k) c.start) (fun x hx => (gapsR_mem _ _ hrow x hx).2.1)
    have hload : loadRes q cs l k = sumS (busy l k) := by
      simp only [loadRes, h0, ne_eq, not_true_eq_false, if_false, loadW]
      rw [fold_w64 _ _ (row_mem _ _ hrow) (Int.le_refl _) (by omega)]
      omega
    have hfree : freeRes q cs l k = gapsR c.stop (busy l k) c.start := by simp only [freeRes, h0, ne_eq, not_true_eq_false, if_false, hc]
    have hw : w64 (c.start + 300) = c.start + 300 := w64_id (by omega) (by omega)
    refine Ev.rw (T' := ?T') ((s11 q cs l).and ((s15 q cs l k).and (s17 q cs l k))) (fun n ⟨k1, k2, k3⟩ => ?a) ?b
    case a =>
      simp only [k1, k2, k3, vI_mk, vB_mk, vS_mk, vL_mk, sVer_mk, sOff_mk, sLen_mk, oVer_mk, oEs_mk, cI_mk, cB_mk, cS_mk, cL_mk, cVer_mk, cOff_mk, cLen_mk, gI_zero, gI_succ, gB_zero, gB_succ, gS_zero, gS_succ, gL_zero, gL_succ, okI_zero, okI_succ, okB_zero, okB_succ, okS_zero, okS_succ, okL_zero, okL_succ, isIntT_int, isBoolT_bool, isStrT_str, isSlT_sl, intOf_int, boolOf_bool, strOf_str, slOf_sl, treeOf_t, srVer_sref, srOff_sref, srLen_sref, ver_row, esOf_row, cellOf_box, List.getD_cons_zero, List.getD_cons_succ, decide_true, decide_false, cnd_true, cnd_false, true_and, and_true, false_and, and_false, Option.bind_some, Option.bind_none, List.length_cons, List.length_nil, List.length_map, List.getElem?_map, Option.map_some, Option.map_none, Int.toNat_natCast, reduceCtorEq, eq_self, if_true, if_false, Nat.zero_add, Nat.reduceAdd, Nat.reduceEqDiff, Int.natCast_nonneg, List.drop_zero, or_true, true_or, or_false, false_or, Bool.not_true, Bool.not_false, Bool.false_eq_true, decide_eq_true_eq, ge_iff_le, gt_iff_lt, hg, h0, bne_self_eq_false, hfree, hload, (show ¬ k < 0 by omega), (show ¬ (cs.length : Int) ≤ k by omega), hk, hc, Contact.enc, hw]
      rfl
    case b =>
      have hlim : c.start ≤ (if c.start + 300 < c.stop then c.start + 300 else c.stop) ∧ (if c.start + 300 < c.stop then c.start + 300 else c.stop) ≤ c.stop := by split <;> omega
      generalize (if c.start + 300 < c.stop then c.start + 300 else c.stop) = lim at hlim
      refine while_overQ (fun r => [Tree.bool r]) (fun (t : Int) => (([.t (tI t)], [.box []]) : List AV × Heap)) (fun t => if t < lim then .next (t + 1) else .done true) (fun t => c.start ≤ t ∧ t ≤ c.stop) (fun t => (c.stop - t).toNat) (fun _ => true) c.start rfl ⟨by omega, by omega⟩ rfl ?_ ?_ ?_
      · rintro t ⟨i1, i2⟩
        by_cases ht : t < lim
        · have h1 := cnt_one (busy l k) c.start t hrow i1 (by omega)
          refine ((s22 l k (by omega)).and ((s24 (busy l k) t (by omega)).and (s24 (gapsR c.stop (busy l k) c.start) t (by omega)))).mono fun n ⟨k1, k2, k3⟩ again => ?_
          have hone : w64 (((cnt (busy l k) t : Nat) : Int) + ((cnt (gapsR c.stop (busy l k) c.start) t : Nat) : Int)) = 1 := by
            rw [show ((cnt (busy l k) t : Nat) : Int) + ((cnt (gapsR c.stop (busy l k) c.start) t : Nat) : Int) = 1 by omega]
            exact w64_id (by omega) (by omega)
          simp only [k1, k2, k3, vI_mk, vB_mk, vS_mk, vL_mk, sVer_mk, sOff_mk, sLen_mk, oVer_mk, oEs_mk, cI_mk, cB_mk, cS_mk, cL_mk, cVer_mk, cOff_mk, cLen_mk, gI_zero, gI_succ, gB_zero, gB_succ, gS_zero, gS_succ, gL_zero, gL_succ, okI_zero, okI_succ, okB_zero, okB_succ, okS_zero, okS_succ, okL_zero, okL_succ, isIntT_int, isBoolT_bool, isStrT_str, isSlT_sl, intOf_int, boolOf_bool, strOf_str, slOf_sl, treeOf_t, srVer_sref, srOff_sref, srLen_sref, ver_row, esOf_row, cellOf_box, List.getD_cons_zero, List.getD_cons_succ, decide_true, decide_false, cnd_true, cnd_false, true_and, and_true, false_and, and_false, Option.bind_some, Option.bind_none, List.length_cons, List.length_nil, List.length_map, List.getElem?_map, Option.map_some, Option.map_none, Int.toNat_natCast, reduceCtorEq, eq_self, if_true, if_false, Nat.zero_add, Nat.reduceAdd, Nat.reduceEqDiff, Int.natCast_nonneg, List.drop_zero, or_true, true_or, or_false, false_or, Bool.not_true, Bool.not_false, Bool.false_eq_true, decide_eq_true_eq, ge_iff_le, gt_iff_lt, ht, hone, bne_self_eq_false, Rd.go_next, w64_id (x := t + 1) (by omega) (by omega)]
        · simp only [vI_mk, vB_mk, vS_mk, vL_mk, sVer_mk, sOff_mk, sLen_mk, oVer_mk, oEs_mk, cI_mk, cB_mk, cS_mk, cL_mk, cVer_mk, cOff_mk, cLen_mk, gI_zero, gI_succ, gB_zero, gB_succ, gS_zero, gS_succ, gL_zero, gL_succ, okI_zero, okI_succ, okB_zero, okB_succ, okS_zero, okS_succ, okL_zero, okL_succ, isIntT_int, isBoolT_bool, isStrT_str, isSlT_sl, intOf_int, boolOf_bool, strOf_str, slOf_sl, treeOf_t, srVer_sref, srOff_sref, srLen_sref, ver_row, esOf_row, cellOf_box, List.getD_cons_zero, List.getD_cons_succ, decide_true, decide_false, cnd_true, cnd_false, true_and, and_true, false_and, and_false, Option.bind_some, Option.bind_none, List.length_cons, List.length_nil, List.length_map, List.getElem?_map, Option.map_some, Option.map_none, Int.toNat_natCast, reduceCtorEq, eq_self, if_true, if_false, Nat.zero_add, Nat.reduceAdd, Nat.reduceEqDiff, Int.natCast_nonneg, List.drop_zero, or_true, true_or, or_false, false_or, Bool.not_true, Bool.not_false, Bool.false_eq_true, decide_eq_true_eq, ge_iff_le, gt_iff_lt, ht, Rd.go_done]
          refine Ev.mono (fun n h again => h) ?_
          refine loop_overQ (fun r => [Tree.bool r]) (gapsR c.stop (busy l k) c.start) (fun i (s : Int) => (([.t (tI s), .t (tI i)], [.box []]) : List AV × Heap)) (fun _ s x => .next (w64 (s + w64 (x.to - x.frm)))) (fun s => decide (s = c.stop - c.start)) (fun _ _ => True) (sumS (busy l k)) rfl trivial ?_
            (fun i s x hx hI => Ev.of fun n again => ?_) (fun _ _ _ _ _ _ _ => trivial) (fun s hI => ?_)
          · rw [runL_fold, fold_w64 _ _ (fun x hx => (gapsR_mem _ _ hrow x hx).2.1) hn1 (by omega)]
            simp only [decide_eq_true_eq]
            omega
          · have hi := lt_of_some hx
            have hm := gapsR_mem _ _ hrow x (List.mem_of_getElem? hx)
            simp only [vI_mk, vB_mk, vS_mk, vL_mk, sVer_mk, sOff_mk, sLen_mk, oVer_mk, oEs_mk, cI_mk, cB_mk, cS_mk, cL_mk, cVer_mk, cOff_mk, cLen_mk, gI_zero, gI_succ, gB_zero, gB_succ, gS_zero, gS_succ, gL_zero, gL_succ, okI_zero, okI_succ, okB_zero, okB_succ, okS_zero, okS_succ, okL_zero, okL_succ, isIntT_int, isBoolT_bool, isStrT_str, isSlT_sl, intOf_int, boolOf_bool, strOf_str, slOf_sl, treeOf_t, srVer_sref, srOff_sref, srLen_sref, ver_row, esOf_row, cellOf_box, List.getD_cons_zero, List.getD_cons_succ, decide_true, decide_false, cnd_true, cnd_false, true_and, and_true, false_and, and_false, Option.bind_some, Option.bind_none, List.length_cons, List.length_nil, List.length_map, List.getElem?_map, Option.map_some, Option.map_none, Int.toNat_natCast, reduceCtorEq, eq_self, if_true, if_false, Nat.zero_add, Nat.reduceAdd, Nat.reduceEqDiff, Int.natCast_nonneg, List.drop_zero, or_true, true_or, or_false, false_or, Bool.not_true, Bool.not_false, Bool.false_eq_true, decide_eq_true_eq, ge_iff_le, gt_iff_lt, hx, Span.enc, w64_succ (show i < 4611686018427387904 by omega), (show (i : Int) < (gapsR c.stop (busy l k) c.start).length by omega), Rd.go_next, (show ¬ x.to ≤ x.frm by omega), (show ¬ x.frm < c.start by omega), (show ¬ c.stop < x.to by omega)]
            by_cases hi0 : i = 0
            · subst hi0
              simp only [vI_mk, vB_mk, vS_mk, vL_mk, sVer_mk, sOff_mk, sLen_mk, oVer_mk, oEs_mk, cI_mk, cB_mk, cS_mk, cL_mk, cVer_mk, cOff_mk, cLen_mk, gI_zero, gI_succ, gB_zero, gB_succ, gS_zero, gS_succ, gL_zero, gL_succ, okI_zero, okI_succ, okB_zero, okB_succ, okS_zero, okS_succ, okL_zero, okL_succ, isIntT_int, isBoolT_bool, isStrT_str, isSlT_sl, intOf_int, boolOf_bool, strOf_str, slOf_sl, treeOf_t, srVer_sref, srOff_sref, srLen_sref, ver_row, esOf_row, cellOf_box, List.getD_cons_zero, List.getD_cons_succ, decide_true, decide_false, cnd_true, cnd_false, true_and, and_true, false_and, and_false, Option.bind_some, Option.bind_none, List.length_cons, List.length_nil, List.length_map, List.getElem?_map, Option.map_some, Option.map_none, Int.toNat_natCast, reduceCtorEq, eq_self, if_true, if_false, Nat.zero_add, Nat.reduceAdd, Nat.reduceEqDiff, Int.natCast_nonneg, List.drop_zero, or_true, true_or, or_false, false_or, Bool.not_true, Bool.not_false, Bool.false_eq_true, decide_eq_true_eq, ge_iff_le, gt_iff_lt, Int.lt_irrefl, (show ¬ (0 : Int) < ((0 : Nat) : Int) by omega)]
            · have hp : (gapsR c.stop (busy l k) c.start)[i - 1]? = some (gapsR c.stop (busy l k) c.start)[i - 1] := List.getElem?_eq_getElem (by omega)
              have ha := pairwise_next (gaps_apart _ _ hrow) hp (by rw [show i - 1 + 1 = i by omega]; exact hx)
              simp only [vI_mk, vB_mk, vS_mk, vL_mk, sVer_mk, sOff_mk, sLen_mk, oVer_mk, oEs_mk, cI_mk, cB_mk, cS_mk, cL_mk, cVer_mk, cOff_mk, cLen_mk, gI_zero, gI_succ, gB_zero, gB_succ, gS_zero, gS_succ, gL_zero, gL_succ, okI_zero, okI_succ, okB_zero, okB_succ, okS_zero, okS_succ, okL_zero, okL_succ, isIntT_int, isBoolT_bool, isStrT_str, isSlT_sl, intOf_int, boolOf_bool, strOf_str, slOf_sl, treeOf_t, srVer_sref, srOff_sref, srLen_sref, ver_row, esOf_row, cellOf_box, List.getD_cons_zero, List.getD_cons_succ, decide_true, decide_false, cnd_true, cnd_false, true_and, and_true, false_and, and_false, Option.bind_some, Option.bind_none, List.length_cons, List.length_nil, List.length_map, List.getElem?_map, Option.map_some, Option.map_none, Int.toNat_natCast, reduceCtorEq, eq_self, if_true, if_false, Nat.zero_add, Nat.reduceAdd, Nat.reduceEqDiff, Int.natCast_nonneg, List.drop_zero, or_true, true_or, or_false, false_or, Bool.not_true, Bool.not_false, Bool.false_eq_true, decide_eq_true_eq, ge_iff_le, gt_iff_lt, (show (0 : Int) < (i : Int) by omega), w64_pred (show i < 4611686018427387904 by omega) (by omega), hp, Span.enc]
              simp only [vI_mk, vB_mk, vS_mk, vL_mk, sVer_mk, sOff_mk, sLen_mk, oVer_mk, oEs_mk, cI_mk, cB_mk, cS_mk, cL_mk, cVer_mk, cOff_mk, cLen_mk, gI_zero, gI_succ, gB_zero, gB_succ, gS_zero, gS_succ, gL_zero, gL_succ, okI_zero, okI_succ, okB_zero, okB_succ, okS_zero, okS_succ, okL_zero, okL_succ, isIntT_int, isBoolT_bool, isStrT_str, isSlT_sl, intOf_int, boolOf_bool, strOf_str, slOf_sl, treeOf_t, srVer_sref, srOff_sref, srLen_sref, ver_row, esOf_row, cellOf_box, List.getD_cons_zero, List.getD_cons_succ, decide_true, decide_false, cnd_true, cnd_false, true_and, and_true, false_and, and_false, Option.bind_some, Option.bind_none, List.length_cons, List.length_nil, List.length_map, List.getElem?_map, Option.map_some, Option.map_none, Int.toNat_natCast, reduceCtorEq, eq_self, if_true, if_false, Nat.zero_add, Nat.reduceAdd, Nat.reduceEqDiff, Int.natCast_nonneg, List.drop_zero, or_true, true_or, or_false, false_or, Bool.not_true, Bool.not_false, Bool.false_eq_true, decide_eq_true_eq, ge_iff_le, gt_iff_lt, (show ¬ x.frm ≤ (gapsR c.stop (busy l k) c.start)[i - 1].to by omega)]
          · refine s12.mono fun n k1 again => ?_
            simp only [vI_mk, vB_mk, vS_mk, vL_mk, sVer_mk, sOff_mk, sLen_mk, oVer_mk, oEs_mk, cI_mk, cB_mk, cS_mk, cL_mk, cVer_mk, cOff_mk, cLen_mk, gI_zero, gI_succ, gB_zero, gB_succ, gS_zero, gS_succ, gL_zero, gL_succ, okI_zero, okI_succ, okB_zero, okB_succ, okS_zero, okS_succ, okL_zero, okL_succ, isIntT_int, isBoolT_bool, isStrT_str, isSlT_sl, intOf_int, boolOf_bool, strOf_str, slOf_sl, treeOf_t, srVer_sref, srOff_sref, srLen_sref, ver_row, esOf_row, cellOf_box, List.getD_cons_zero, List.getD_cons_succ, decide_true, decide_false, cnd_true, cnd_false, true_and, and_true, false_and, and_false, Option.bind_some, Option.bind_none, List.length_cons, List.length_nil, List.length_map, List.getElem?_map, Option.map_some, Option.map_none, Int.toNat_natCast, reduceCtorEq, eq_self, if_true, if_false, Nat.zero_add, Nat.reduceAdd, Nat.reduceEqDiff, Int.natCast_nonneg, List.drop_zero, or_true, true_or, or_false, false_or, Bool.not_true, Bool.not_false, Bool.false_eq_true, decide_eq_true_eq, ge_iff_le, gt_iff_lt, Int.lt_irrefl, k1, w64_id (x := c.stop - c.start) (by omega) (by omega), cnd_eq, beq_iff_eq]
            split
            · rename_i h; simp [h]
            · rename_i h; simp [h]
      · rintro t t' ⟨i1, i2⟩ hs
        by_cases ht : t < lim
        · simp only [ht, if_true, Rd.next.injEq] at hs
          omega
        · simp [ht] at hs
      · rintro t ⟨i1, i2⟩
        by_cases ht : t < lim <;> simp [ht, Rd.fin]
  · have hfree : freeRes q cs l k = [] := by simp [freeRes, h0]
    have hload : loadRes q cs l k = 0 := by simp [loadRes, h0]
    refine ((s11 q cs l).and ((s15 q cs l k).and ((s17 q cs l k).and s12))).mono fun n ⟨k1, k2, k3, k4⟩ => ?_
    simp only [k1, k2, k3, k4, vI_mk, vB_mk, vS_mk, vL_mk, sVer_mk, sOff_mk, sLen_mk, oVer_mk, oEs_mk, cI_mk, cB_mk, cS_mk, cL_mk, cVer_mk, cOff_mk, cLen_mk, gI_zero, gI_succ, gB_zero, gB_succ, gS_zero, gS_succ, gL_zero, gL_succ, okI_zero, okI_succ, okB_zero, okB_succ, okS_zero, okS_succ, okL_zero, okL_succ, isIntT_int, isBoolT_bool, isStrT_str, isSlT_sl, intOf_int, boolOf_bool, strOf_str, slOf_sl, treeOf_t, srVer_sref, srOff_sref, srLen_sref, ver_row, esOf_row, cellOf_box, List.getD_cons_zero, List.getD_cons_succ, decide_true, decide_false, cnd_true, cnd_false, true_and, and_true, false_and, and_false, Option.bind_some, Option.bind_none, List.length_cons, List.length_nil, List.length_map, List.getElem?_map, Option.map_some, Option.map_none, Int.toNat_natCast, reduceCtorEq, eq_self, if_true, if_false, Nat.zero_add, Nat.reduceAdd, Nat.reduceEqDiff, Int.natCast_nonneg, List.drop_zero, or_true, true_or, or_false, false_or, Bool.not_true, Bool.not_false, Bool.false_eq_true, decide_eq_true_eq, ge_iff_le, gt_iff_lt, hg, hfree, hload, List.map_nil, beq_self_eq_true]
    rw [cnd_pos (by simp [h0])]
    simp [cnd_eq]
end Ab
