/- Booking: the law Monotone. -/
import Derived.Test.YtlgphbnkicihgaaBkN
set_option linter.unusedVariables false
set_option linter.unusedSimpArgs false
namespace Ab
open Go

theorem busy_ins {l : List Booking} {b : Booking} {k : Int} {x : Span} (hx : x ∈ busy l k) : x ∈ busy (bIns l b) k := by
  unfold busy at *
  rw [List.mem_filterMap] at *
  obtain ⟨y, hy, he⟩ := hx
  exact ⟨y, (insB_mem _ b l y).2 (.inr hy), he⟩
theorem codes (q : List Int) (cs : List Contact) (l : List Booking) (k ready size : Int) : (fitRes q cs l k ready size).2 = 0 ∨ (fitRes q cs l k ready size).2 = 1 ∨ (fitRes q cs l k ready size).2 = 2 ∨ fitRes q cs l k ready size = (0, 16) := by
  have hcc : ckCheck q cs l k = 0 ∨ ckCheck q cs l k = 1 ∨ ckCheck q cs l k = 2 := by unfold ckCheck; grind
  unfold fitRes
  grind
theorem mono_late {q : List Int} {cs : List Contact} {l : List Booking} {k r r' size : Int} {c : Contact} (h : FitOk q cs l k r size c) (hcc : contactCheck c = 0) (hbo : BookOk cs l) (hr : r ≤ r' ∨ c.stop ≤ r ∧ c.stop ≤ r') :
    (fitRes q cs l k r size = (0, 16) → (fitRes q cs l k r' size).2 = 16) ∧ ((fitRes q cs l k r size).2 = 0 → (fitRes q cs l k r' size).2 = 0 → ¬ (fitRes q cs l k r' size).1 < (fitRes q cs l k r size).1) := by
  have hn := durT_pos hcc h.size.1
  obtain ⟨f1, f2, f3⟩ := fit_spec h hcc hbo
  have h' : FitOk q cs l k r' size c := ⟨h.ck, h.at_, h.size⟩
  obtain ⟨g1, g2, g3⟩ := fit_spec h' hcc hbo
  constructor
  · intro he
    rcases g3 with g3 | g3
    · exfalso
      obtain ⟨a1, a2⟩ := g1 (fitRes q cs l k r' size).1 (by rw [← g3])
      have := a2.2.1
      obtain ⟨b, hb, _⟩ := f2 _ (by omega) a2
      rw [he] at hb
      cases hb
    · rw [g3]
  · intro he hf hlt
    obtain ⟨a1, a2⟩ := g1 (fitRes q cs l k r' size).1 (by rw [← hf])
    have := a2.2.1
    obtain ⟨b, hb, hle⟩ := f2 _ (by omega) a2
    rw [hb] at hlt
    simp only at hlt
    omega
theorem mono_size {q : List Int} {cs : List Contact} {l : List Booking} {k r s s' : Int} {c : Contact} (h : FitOk q cs l k r s c) (hcc : contactCheck c = 0) (hbo : BookOk cs l) (hs : s ≤ s') :
    (fitRes q cs l k r s = (0, 16) → (fitRes q cs l k r s').2 = 16 ∨ (fitRes q cs l k r s').2 = 2) ∧ ((fitRes q cs l k r s).2 = 0 → (fitRes q cs l k r s').2 = 0 → ¬ (fitRes q cs l k r s').1 < (fitRes q cs l k r s).1) := by
  have o := contact_ok hcc
  have hn := durT_pos hcc h.size.1
  have h0 := h.size
  obtain ⟨f1, f2, f3⟩ := fit_spec h hcc hbo
  by_cases hb : s' ≤ 65536
  · have h' : FitOk q cs l k r s' c := ⟨h.ck, h.at_, by omega, hb⟩
    obtain ⟨g1, g2, g3⟩ := fit_spec h' hcc hbo
    have hm := durT_mono (c := c) (by omega) (n := s) (m := s') (by omega) hs
    have key : ∀ t, FitsB c l k (durT c s') t → FitsB c l k (durT c s) t := fun t ht => ⟨ht.1, by have := ht.2.1; omega, fun x hx => by
      have := ht.2.2 x hx; omega⟩
    constructor
    · intro he
      rcases g3 with g3 | g3
      · exfalso
        obtain ⟨a1, a2⟩ := g1 (fitRes q cs l k r s').1 (by rw [← g3])
        obtain ⟨b, hb, _⟩ := f2 _ a1 (key _ a2)
        rw [he] at hb
        cases hb
      · rw [g3]; exact .inl rfl
    · intro he hf hlt
      obtain ⟨a1, a2⟩ := g1 (fitRes q cs l k r s').1 (by rw [← hf])
      obtain ⟨b, hb, hle⟩ := f2 _ a1 (key _ a2)
      rw [hb] at hlt
      simp only at hlt
      omega
  · have : (fitRes q cs l k r s').2 = 2 := by
      unfold fitRes
      rw [if_neg (by simp [h.ck]), h.at_]
      simp only
      rw [if_neg (by omega)]
    rw [this]
    exact ⟨fun _ => .inr rfl, fun _ h => by omega⟩
theorem mono_add {q : List Int} {cs : List Contact} {l : List Booking} {b : Booking} {r s : Int} {c : Contact} (h : FitOk q cs l b.contact r s c) (hcc : contactCheck c = 0) (hbo : BookOk cs l) (ha : addC q cs l b = 0) :
    (fitRes q cs l b.contact r s).2 = 0 → (fitRes q cs (bIns l b) b.contact r s).2 = 0 → ¬ (fitRes q cs (bIns l b) b.contact r s).1 < (fitRes q cs l b.contact r s).1 := by
  intro he hf hlt
  obtain ⟨p1, p2, p3, p4⟩ := add_ok ha
  obtain ⟨o1, o2, o3⟩ := bookCheck_ok p1
  have hv := valid_ok p2
  have cm := bookCheck_of o1 (show (bIns l b).length ≤ 512 by rw [bIns, insB_len]; omega) (ins_ok o3 p2 p4)
  obtain ⟨f1, f2, f3⟩ := fit_spec h hcc hbo
  have h' : FitOk q cs (bIns l b) b.contact r s c := ⟨ck_of cm ⟨hv.1, hv.2.1⟩, h.at_, h.size⟩
  obtain ⟨g1, g2, g3⟩ := fit_spec h' hcc (ins_ok o3 p2 p4)
  obtain ⟨a1, a2⟩ := g1 (fitRes q cs (bIns l b) b.contact r s).1 (by rw [← hf])
  obtain ⟨b', hb, hle⟩ := f2 _ a1 ⟨a2.1, a2.2.1, fun x hx => a2.2.2 x (busy_ins hx)⟩
  rw [hb] at hlt
  simp only at hlt
  omega

theorem law7 (q : List Int) (cs : List Contact) (l : List Booking) (b : Booking) (ready size later more : Int) (hr : -9223372036854775808 ≤ ready ∧ ready ≤ 9223372036854775807) (hl : 0 ≤ later ∧ later ≤ 255) (hm : 0 ≤ more ∧ more ≤ 255) :
    Runs C 7 [.sl 1 (q.map encI), .sl 7 (cs.map Contact.enc), .sl 4 (l.map Booking.enc), tI b.contact, tI b.beg, tI b.stop, tI b.ticket, tI ready, tI size, .int .u8 later, .int .u8 more] [.bool true] := by
  refine Runs.of (fun n => e7 n _ _ _ _ _ _ _ _ _ _ _) ?_
  by_cases hg : 6 < q.length ∨ 10 < cs.length ∨ 30 < l.length
  · refine ((s11 q cs l).and s12).mono fun n ⟨h1, h2⟩ => ?_
    simp only [h1, h2, vI_mk, vB_mk, vS_mk, vL_mk, sVer_mk, sOff_mk, sLen_mk, oVer_mk, oEs_mk, cI_mk, cB_mk, cS_mk, cL_mk, cVer_mk, cOff_mk, cLen_mk, gI_zero, gI_succ, gB_zero, gB_succ, gS_zero, gS_succ, gL_zero, gL_succ, okI_zero, okI_succ, okB_zero, okB_succ, okS_zero, okS_succ, okL_zero, okL_succ, isIntT_int, isBoolT_bool, isStrT_str, isSlT_sl, intOf_int, boolOf_bool, strOf_str, slOf_sl, treeOf_t, srVer_sref, srOff_sref, srLen_sref, ver_row, esOf_row, cellOf_box, List.getD_cons_zero, List.getD_cons_succ, decide_true, decide_false, cnd_true, cnd_false, true_and, and_true, false_and, and_false, Option.bind_some, Option.bind_none, List.length_cons, List.length_nil, List.length_map, List.getElem?_map, Option.map_some, Option.map_none, Int.toNat_natCast, reduceCtorEq, eq_self, if_true, if_false, Nat.zero_add, Nat.reduceAdd, Nat.reduceEqDiff, Int.natCast_nonneg, List.drop_zero, or_true, true_or, or_false, false_or, Bool.not_true, Bool.not_false, Bool.false_eq_true, decide_eq_true_eq, ge_iff_le, gt_iff_lt, hg]
  have w1 : w64 later = later := w64_id (by omega) (by omega)
  have w2 : w64 more = more := w64_id (by omega) (by omega)
  have w3 : w64 ((if (1099511627776 : Int) < ready then 1099511627776 else ready) + later) = (if (1099511627776 : Int) < ready then 1099511627776 else ready) + later := w64_id (by split <;> omega) (by split <;> omega)
  rcases codes q cs l b.contact ready size with hE | hE | hE | hE
  · obtain ⟨c, hfo, hcc, hbo, hk0, hk1, hlen⟩ := fit_code (.inl hE)
    have o := contact_ok hcc
    have hs := hfo.size
    have w4 : w64 (size + more) = size + more := w64_id (by omega) (by omega)
    have m1 := (mono_late (r' := (if (1099511627776 : Int) < ready then 1099511627776 else ready) + later) hfo hcc hbo (by split <;> omega)).2 hE
    have m2 := (mono_size (s' := size + more) hfo hcc hbo (by omega)).2 hE
    have m3 := fun ha => mono_add (b := b) hfo hcc hbo ha hE
    refine ((s11 q cs l).and (s12.and ((s13 q cs l b.contact ready size).and ((s13 q cs l b.contact ((if (1099511627776 : Int) < ready then 1099511627776 else ready) + later) size).and ((s13 q cs l b.contact ready (size + more)).and ((s26 q cs l b).and (s13 q cs (addL q cs l b) b.contact ready size))))))).mono fun n h => ?_
    obtain ⟨h1, h2, h3, h4, h5, h6, h7⟩ := h
    simp only [h1, h2, h3, h4, h5, h6, h7, vI_mk, vB_mk, vS_mk, vL_mk, sVer_mk, sOff_mk, sLen_mk, oVer_mk, oEs_mk, cI_mk, cB_mk, cS_mk, cL_mk, cVer_mk, cOff_mk, cLen_mk, gI_zero, gI_succ, gB_zero, gB_succ, gS_zero, gS_succ, gL_zero, gL_succ, okI_zero, okI_succ, okB_zero, okB_succ, okS_zero, okS_succ, okL_zero, okL_succ, isIntT_int, isBoolT_bool, isStrT_str, isSlT_sl, intOf_int, boolOf_bool, strOf_str, slOf_sl, treeOf_t, srVer_sref, srOff_sref, srLen_sref, ver_row, esOf_row, cellOf_box, List.getD_cons_zero, List.getD_cons_succ, decide_true, decide_false, cnd_true, cnd_false, true_and, and_true, false_and, and_false, Option.bind_some, Option.bind_none, List.length_cons, List.length_nil, List.length_map, List.getElem?_map, Option.map_some, Option.map_none, Int.toNat_natCast, reduceCtorEq, eq_self, if_true, if_false, Nat.zero_add, Nat.reduceAdd, Nat.reduceEqDiff, Int.natCast_nonneg, List.drop_zero, or_true, true_or, or_false, false_or, Bool.not_true, Bool.not_false, Bool.false_eq_true, decide_eq_true_eq, ge_iff_le, gt_iff_lt, hg, w1, w2, w3, w4, hE, bne_self_eq_false, show ((0 : Int) == 16) = false from rfl, beq_iff_eq]
    generalize fitRes q cs l b.contact ((if (1099511627776 : Int) < ready then 1099511627776 else ready) + later) size = F at *
    generalize fitRes q cs l b.contact ready (size + more) = G at *
    have m4 : addC q cs l b = 0 → (fitRes q cs (addL q cs l b) b.contact ready size).2 = 0 → ¬ (fitRes q cs (addL q cs l b) b.contact ready size).1 < (fitRes q cs l b.contact ready size).1 := fun ha => by
      rw [show addL q cs l b = bIns l b by simp [addL, ha]]
      exact m3 ha
    generalize fitRes q cs (addL q cs l b) b.contact ready size = A at *
    generalize fitRes q cs l b.contact ready size = E at *
    simp only [cnd_eq]
    grind
  · refine ((s11 q cs l).and (s12.and ((s13 q cs l b.contact ready size).and ((s13 q cs l b.contact (w64 ((if (1099511627776 : Int) < ready then 1099511627776 else ready) + w64 later)) size).and (s13 q cs l b.contact ready (w64 (size + w64 more))))))).mono fun n h => ?_
    obtain ⟨h1, h2, h3, h4, h5⟩ := h
    simp only [h1, h2, h3, h4, h5, vI_mk, vB_mk, vS_mk, vL_mk, sVer_mk, sOff_mk, sLen_mk, oVer_mk, oEs_mk, cI_mk, cB_mk, cS_mk, cL_mk, cVer_mk, cOff_mk, cLen_mk, gI_zero, gI_succ, gB_zero, gB_succ, gS_zero, gS_succ, gL_zero, gL_succ, okI_zero, okI_succ, okB_zero, okB_succ, okS_zero, okS_succ, okL_zero, okL_succ, isIntT_int, isBoolT_bool, isStrT_str, isSlT_sl, intOf_int, boolOf_bool, strOf_str, slOf_sl, treeOf_t, srVer_sref, srOff_sref, srLen_sref, ver_row, esOf_row, cellOf_box, List.getD_cons_zero, List.getD_cons_succ, decide_true, decide_false, cnd_true, cnd_false, true_and, and_true, false_and, and_false, Option.bind_some, Option.bind_none, List.length_cons, List.length_nil, List.length_map, List.getElem?_map, Option.map_some, Option.map_none, Int.toNat_natCast, reduceCtorEq, eq_self, if_true, if_false, Nat.zero_add, Nat.reduceAdd, Nat.reduceEqDiff, Int.natCast_nonneg, List.drop_zero, or_true, true_or, or_false, false_or, Bool.not_true, Bool.not_false, Bool.false_eq_true, decide_eq_true_eq, ge_iff_le, gt_iff_lt, hg, hE, show ((1 : Int) == 16) = false from rfl, show ((1 : Int) != 0) = true from rfl]
  · refine ((s11 q cs l).and (s12.and ((s13 q cs l b.contact ready size).and ((s13 q cs l b.contact (w64 ((if (1099511627776 : Int) < ready then 1099511627776 else ready) + w64 later)) size).and (s13 q cs l b.contact ready (w64 (size + w64 more))))))).mono fun n h => ?_
    obtain ⟨h1, h2, h3, h4, h5⟩ := h
    simp only [h1, h2, h3, h4, h5, vI_mk, vB_mk, vS_mk, vL_mk, sVer_mk, sOff_mk, sLen_mk, oVer_mk, oEs_mk, cI_mk, cB_mk, cS_mk, cL_mk, cVer_mk, cOff_mk, cLen_mk, gI_zero, gI_succ, gB_zero, gB_succ, gS_zero, gS_succ, gL_zero, gL_succ, okI_zero, okI_succ, okB_zero, okB_succ, okS_zero, okS_succ, okL_zero, okL_succ, isIntT_int, isBoolT_bool, isStrT_str, isSlT_sl, intOf_int, boolOf_bool, strOf_str, slOf_sl, treeOf_t, srVer_sref, srOff_sref, srLen_sref, ver_row, esOf_row, cellOf_box, List.getD_cons_zero, List.getD_cons_succ, decide_true, decide_false, cnd_true, cnd_false, true_and, and_true, false_and, and_false, Option.bind_some, Option.bind_none, List.length_cons, List.length_nil, List.length_map, List.getElem?_map, Option.map_some, Option.map_none, Int.toNat_natCast, reduceCtorEq, eq_self, if_true, if_false, Nat.zero_add, Nat.reduceAdd, Nat.reduceEqDiff, Int.natCast_nonneg, List.drop_zero, or_true, true_or, or_false, false_or, Bool.not_true, Bool.not_false, Bool.false_eq_true, decide_eq_true_eq, ge_iff_le, gt_iff_lt, hg, hE, show ((2 : Int) == 16) = false from rfl, show ((2 : Int) != 0) = true from rfl]
  · obtain ⟨c, hfo, hcc, hbo, hk0, hk1, hlen⟩ := fit_code (q := q) (cs := cs) (l := l) (k := b.contact) (ready := ready) (size := size) (.inr (by rw [hE]))
    have o := contact_ok hcc
    have hs := hfo.size
    have w4 : w64 (size + more) = size + more := w64_id (by omega) (by omega)
    have m1 := (mono_late (r' := (if (1099511627776 : Int) < ready then 1099511627776 else ready) + later) hfo hcc hbo (by split <;> omega)).1 hE
    have m2 := (mono_size (s' := size + more) hfo hcc hbo (by omega)).1 hE
    refine ((s11 q cs l).and (s12.and ((s13 q cs l b.contact ready size).and ((s13 q cs l b.contact ((if (1099511627776 : Int) < ready then 1099511627776 else ready) + later) size).and (s13 q cs l b.contact ready (size + more)))))).mono fun n h => ?_
    obtain ⟨h1, h2, h3, h4, h5⟩ := h
    simp only [h1, h2, h3, h4, h5, vI_mk, vB_mk, vS_mk, vL_mk, sVer_mk, sOff_mk, sLen_mk, oVer_mk, oEs_mk, cI_mk, cB_mk, cS_mk, cL_mk, cVer_mk, cOff_mk, cLen_mk, gI_zero, gI_succ, gB_zero, gB_succ, gS_zero, gS_succ, gL_zero, gL_succ, okI_zero, okI_succ, okB_zero, okB_succ, okS_zero, okS_succ, okL_zero, okL_succ, isIntT_int, isBoolT_bool, isStrT_str, isSlT_sl, intOf_int, boolOf_bool, strOf_str, slOf_sl, treeOf_t, srVer_sref, srOff_sref, srLen_sref, ver_row, esOf_row, cellOf_box, List.getD_cons_zero, List.getD_cons_succ, decide_true, decide_false, cnd_true, cnd_false, true_and, and_true, false_and, and_false, Option.bind_some, Option.bind_none, List.length_cons, List.length_nil, List.length_map, List.getElem?_map, Option.map_some, Option.map_none, Int.toNat_natCast, reduceCtorEq, eq_self, if_true, if_false, Nat.zero_add, Nat.reduceAdd, Nat.reduceEqDiff, Int.natCast_nonneg, List.drop_zero, or_true, true_or, or_false, false_or, Bool.not_true, Bool.not_false, Bool.false_eq_true, decide_eq_true_eq, ge_iff_le, gt_iff_lt, hg, w1, w2, w3, w4, hE, m1, show ((16 : Int) == 16) = true from rfl]
    rcases m2 with e | e <;> simp [e, cnd_eq]
end Ab
