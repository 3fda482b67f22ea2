/- Booking: the law Blocked. -/
import Derived.Test.YtlgphbnkicihgaaBkO
set_option linter.unusedVariables false
set_option linter.unusedSimpArgs false
namespace Ab
open Go

/-- Some interval holds the time. -/
def cov (l : List Span) (t : Int) : Prop := ∃ x ∈ l, x.frm ≤ t ∧ t < x.to
def Apart (l : List Span) : Prop := l.Pairwise (fun a b => a.to < b.frm) ∧ ∀ x ∈ l, x.frm < x.to
theorem cov_cons {x : Span} {l : List Span} {t : Int} : cov (x :: l) t ↔ (x.frm ≤ t ∧ t < x.to) ∨ cov l t := by
  unfold cov
  simp [or_and_right, exists_or]
theorem apart_cons {x : Span} {l : List Span} : Apart (x :: l) ↔ x.frm < x.to ∧ (∀ y ∈ l, x.to < y.frm) ∧ Apart l := by
  unfold Apart
  rw [List.pairwise_cons]
  simp only [List.mem_cons, forall_eq_or_imp]
  constructor
  · rintro ⟨⟨h1, h2⟩, h3, h4⟩; exact ⟨h3, h1, h2, h4⟩
  · rintro ⟨h3, h1, h2, h4⟩; exact ⟨⟨h1, h2⟩, h3, h4⟩
theorem cov_tail {x : Span} {l : List Span} (h : ∀ y ∈ l, x.to < y.frm) {t : Int} (hc : cov l t) : x.to < t := by
  obtain ⟨y, hy, h1, _⟩ := hc
  have := h y hy
  omega
theorem apart_ext : ∀ {a b : List Span}, Apart a → Apart b → (∀ t, cov a t ↔ cov b t) → a = b
  | [], [], _, _, _ => rfl
  | [], y :: b, _, hb, h => by
    rw [apart_cons] at hb
    have := (h y.frm).2 (cov_cons.2 (.inl ⟨Int.le_refl _, hb.1⟩))
    obtain ⟨z, hz, _⟩ := this
    simp at hz
  | x :: a, [], ha, _, h => by
    rw [apart_cons] at ha
    have := (h x.frm).1 (cov_cons.2 (.inl ⟨Int.le_refl _, ha.1⟩))
    obtain ⟨z, hz, _⟩ := this
    simp at hz
  | x :: a, y :: b, ha, hb, h => by
    rw [apart_cons] at ha hb
    have f1 : y.frm ≤ x.frm := by
      rcases cov_cons.1 ((h x.frm).1 (cov_cons.2 (.inl ⟨Int.le_refl _, ha.1⟩))) with h1 | h1
      · exact h1.1
      · have := cov_tail hb.2.1 h1; omega
    have f2 : x.frm ≤ y.frm := by
      rcases cov_cons.1 ((h y.frm).2 (cov_cons.2 (.inl ⟨Int.le_refl _, hb.1⟩))) with h1 | h1
      · exact h1.1
      · have := cov_tail ha.2.1 h1; omega
    have t1 : ¬ x.to < y.to := fun hlt => by
      rcases cov_cons.1 ((h x.to).2 (cov_cons.2 (.inl ⟨by omega, hlt⟩))) with h1 | h1
      · omega
      · have := cov_tail ha.2.1 h1; omega
    have t2 : ¬ y.to < x.to := fun hlt => by
      rcases cov_cons.1 ((h y.to).1 (cov_cons.2 (.inl ⟨by omega, hlt⟩))) with h1 | h1
      · omega
      · have := cov_tail hb.2.1 h1; omega
    have e1 : x.frm = y.frm := by omega
    have e2 : x.to = y.to := by omega
    have hxy : x = y := by cases x; cases y; simp_all
    subst hxy
    congr 1
    refine apart_ext ha.2.2 hb.2.2 fun t => ?_
    constructor
    · intro hc
      rcases cov_cons.1 ((h t).1 (cov_cons.2 (.inr hc))) with h1 | h1
      · have := cov_tail ha.2.1 hc; omega
      · exact h1
    · intro hc
      rcases cov_cons.1 ((h t).2 (cov_cons.2 (.inr hc))) with h1 | h1
      · have := cov_tail hb.2.1 hc; omega
      · exact h1
theorem cov_cnt {l : List Span} {t : Int} : cov l t ↔ 0 < cnt l t := by
  unfold cov cnt
  rw [List.countP_pos_iff]
  simp only [hits, decide_eq_true_eq]
theorem cov_gaps {stop : Int} {l : List Span} {lo : Int} (h : Row stop l lo) {t : Int} : cov (gapsR stop l lo) t ↔ lo ≤ t ∧ t < stop ∧ ¬ cov l t := by
  constructor
  · intro hc
    obtain ⟨x, hx, h1, h2⟩ := hc
    have hm := gapsR_mem l lo h x hx
    refine ⟨by omega, by omega, ?_⟩
    rw [cov_cnt]
    have h3 : 0 < cnt (gapsR stop l lo) t := cov_cnt.1 ⟨x, hx, h1, h2⟩
    have := cnt_one l lo t h (by omega) (by omega)
    omega
  · rintro ⟨h1, h2, h3⟩
    rw [cov_cnt] at *
    have := cnt_one l lo t h h1 h2
    omega
theorem gaps_Apart {stop : Int} {l : List Span} {lo : Int} (h : Row stop l lo) : Apart (gapsR stop l lo) := ⟨gaps_apart l lo h, fun x hx => (gapsR_mem l lo h x hx).2.1⟩
theorem cov_cut {f : Int} {l : List Span} {t : Int} : cov (l.filterMap (cutS f)) t ↔ cov l t ∧ f ≤ t := by
  unfold cov
  simp only [List.mem_filterMap]
  constructor
  · rintro ⟨x, ⟨y, hy, he⟩, h1, h2⟩
    unfold cutS at he
    split at he
    · cases he
    · cases he
      simp only at h1 h2
      exact ⟨⟨y, hy, by split at h1 <;> omega, h2⟩, by split at h1 <;> omega⟩
  · rintro ⟨⟨y, hy, h1, h2⟩, h3⟩
    refine ⟨⟨if y.frm < f then f else y.frm, y.to⟩, ⟨y, hy, ?_⟩, ?_, h2⟩
    · unfold cutS; rw [if_neg (by omega)]
    · simp only; split <;> omega
/-- What is left of an interval ahead of a time. -/
def clip (f : Int) (x : Span) : Option Span := if x.frm < (if f < x.to then f else x.to) then some ⟨x.frm, if f < x.to then f else x.to⟩ else none
theorem clip_eq {f : Int} {x y : Span} (h : clip f x = some y) : y.frm = x.frm ∧ x.frm < y.to ∧ y.to ≤ f ∧ y.to ≤ x.to := by
  unfold clip at h
  generalize hm : (if f < x.to then f else x.to) = m at h
  have h1 : m ≤ f ∧ m ≤ x.to := by rw [← hm]; split <;> omega
  split at h
  · cases h
    exact ⟨rfl, by assumption, h1.1, h1.2⟩
  · cases h
theorem cov_clip {f : Int} {l : List Span} {t : Int} : cov (l.filterMap (clip f)) t ↔ cov l t ∧ t < f := by
  unfold cov
  simp only [List.mem_filterMap]
  constructor
  · rintro ⟨x, ⟨y, hy, he⟩, h1, h2⟩
    have := clip_eq he
    exact ⟨⟨y, hy, by omega, by omega⟩, by omega⟩
  · rintro ⟨⟨y, hy, h1, h2⟩, h3⟩
    refine ⟨⟨y.frm, if f < y.to then f else y.to⟩, ⟨y, hy, ?_⟩, h1, ?_⟩
    · unfold clip; rw [if_pos (by split <;> omega)]
    · simp only; split <;> omega
theorem clip_Apart {f : Int} {l : List Span} (h : Apart l) : Apart (l.filterMap (clip f)) := by
  refine ⟨List.Pairwise.filterMap _ (fun a b hab x hx y hy => ?_) h.1, fun x hx => ?_⟩
  · have h1 := clip_eq hx
    have h2 := clip_eq hy
    omega
  · rw [List.mem_filterMap] at hx
    obtain ⟨y, hy, he⟩ := hx
    have := clip_eq he
    omega

theorem blk_mem (k : Int) : ∀ (gs : List Span) (l : List Booking) (x : Booking), x ∈ blk k l gs ↔ x ∈ l ∨ ∃ g ∈ gs, x = bk k g
  | [], l, x => by simp [blk]
  | g :: gs, l, x => by
    show x ∈ blk k (bIns l (bk k g)) gs ↔ _
    rw [blk_mem k gs, bIns, insB_mem]
    simp only [List.mem_cons, exists_eq_or_imp]
    constructor
    · rintro ((h | h) | h)
      · exact .inr (.inl h)
      · exact .inl h
      · exact .inr (.inr h)
    · rintro (h | h | h)
      · exact .inl (.inr h)
      · exact .inl (.inl h)
      · exact .inr h
theorem blk_ginv {cs : List Contact} {k : Int} : ∀ (gs : List Span) (l : List Booking), GInv cs k l gs → BookOk cs (blk k l gs)
  | [], l, h => h.1
  | g :: gs, l, h => blk_ginv gs (bIns l (bk k g)) h.step
theorem cov_blk {k : Int} {l : List Booking} {gs : List Span} {t : Int} : cov (busy (blk k l gs) k) t ↔ cov (busy l k) t ∨ cov gs t := by
  have hb : ∀ (m : List Booking), cov (busy m k) t ↔ ∃ b ∈ m, b.contact = k ∧ b.beg ≤ t ∧ t < b.stop := by
    intro m
    unfold cov busy
    simp only [List.mem_filterMap]
    constructor
    · rintro ⟨x, ⟨b, hb, he⟩, h1, h2⟩
      split at he
      · rename_i hk
        cases he
        exact ⟨b, hb, hk, h1, h2⟩
      · cases he
    · rintro ⟨b, hb, hk, h1, h2⟩
      exact ⟨⟨b.beg, b.stop⟩, ⟨b, hb, by simp [hk]⟩, h1, h2⟩
  rw [hb, hb]
  constructor
  · rintro ⟨b, hm, h⟩
    rcases (blk_mem k gs l b).1 hm with hm | ⟨g, hg, rfl⟩
    · exact .inl ⟨b, hm, h⟩
    · exact .inr ⟨g, hg, h.2⟩
  · rintro (⟨b, hm, h⟩ | ⟨g, hg, h⟩)
    · exact ⟨b, (blk_mem k gs l b).2 (.inl hm), h⟩
    · exact ⟨bk k g, (blk_mem k gs l _).2 (.inr ⟨g, hg, rfl⟩), rfl, h⟩

theorem law8 (q : List Int) (cs : List Contact) (l : List Booking) (k f : Int) :
    Runs C 8 [.sl 1 (q.map encI), .sl 7 (cs.map Contact.enc), .sl 4 (l.map Booking.enc), tI k, tI f] [.bool true] := by
  refine Runs.of (fun n => e8 n _ _ _ _ _) ?_
  by_cases hg : 6 < q.length ∨ 10 < cs.length ∨ 30 < l.length
  · refine ((s11 q cs l).and s12).mono fun n ⟨h1, h2⟩ => ?_
    simp only [h1, h2, vI_mk, vB_mk, vS_mk, vL_mk, sVer_mk, sOff_mk, sLen_mk, oVer_mk, oEs_mk, cI_mk, cB_mk, cS_mk, cL_mk, cVer_mk, cOff_mk, cLen_mk, gI_zero, gI_succ, gB_zero, gB_succ, gS_zero, gS_succ, gL_zero, gL_succ, okI_zero, okI_succ, okB_zero, okB_succ, okS_zero, okS_succ, okL_zero, okL_succ, isIntT_int, isBoolT_bool, isStrT_str, isSlT_sl, intOf_int, boolOf_bool, strOf_str, slOf_sl, treeOf_t, srVer_sref, srOff_sref, srLen_sref, ver_row, esOf_row, cellOf_box, List.getD_cons_zero, List.getD_cons_succ, decide_true, decide_false, cnd_true, cnd_false, true_and, and_true, false_and, and_false, Option.bind_some, Option.bind_none, List.length_cons, List.length_nil, List.length_map, List.getElem?_map, Option.map_some, Option.map_none, Int.toNat_natCast, reduceCtorEq, eq_self, if_true, if_false, Nat.zero_add, Nat.reduceAdd, Nat.reduceEqDiff, Int.natCast_nonneg, List.drop_zero, or_true, true_or, or_false, false_or, Bool.not_true, Bool.not_false, Bool.false_eq_true, decide_eq_true_eq, ge_iff_le, gt_iff_lt, hg]
  by_cases hb : blkC q cs l k f = 0
  · have hck : ckCheck q cs l k = 0 := by
      unfold blkC at hb
      by_cases h : ckCheck q cs l k = 0
      · exact h
      · simp [h] at hb
    obtain ⟨c, hc, hk0, hk1, hcc, hbo, hlen⟩ := ck_ok hck
    have o := contact_ok hcc
    have hpc : planCheck q cs = 0 := by
      have : bookCheck q cs l = 0 := by unfold ckCheck at hck; grind
      exact (bookCheck_ok this).1
    have hrow := busy_row hbo hc hcc
    have hgi := ginv_start (f := f) hbo ⟨hk0, hk1⟩ hc hcc
    have hcut := gaps_cut (f := f) _ _ hrow
    generalize hgs : gapsL c.stop (busy l k) (if c.start < f then f else c.start) = gs at *
    have hmore : blkL q cs l k f = blk k l gs := by
      unfold blkL
      rw [if_neg (by simp [hb]), hc]
      simp only [hgs]
    have hl2 : l.length + gs.length ≤ 512 := by
      unfold blkC at hb
      rw [if_neg (by simp [hck]), hc] at hb
      simp only [hgs] at hb
      grind
    have hmlen := blk_len k gs l
    have hbm := blk_ginv gs l hgi
    have cm := bookCheck_of hpc (show (blk k l gs).length ≤ 512 by omega) hbm
    have ckm := ck_of cm ⟨hk0, hk1⟩
    have hrow2 := busy_row hbm hc hcc
    have hfree : freeRes q cs l k = gapsR c.stop (busy l k) c.start := by unfold freeRes; rw [if_neg (by simp [hck]), hc]
    have hleft : freeRes q cs (blk k l gs) k = gapsR c.stop (busy (blk k l gs) k) c.start := by unfold freeRes; rw [if_neg (by simp [ckm]), hc]
    have hcl : ∀ t, cov (gapsR c.stop (busy (blk k l gs) k) c.start) t ↔ c.start ≤ t ∧ t < c.stop ∧ ¬ cov (busy l k) t ∧ t < f := by
      intro t
      rw [cov_gaps hrow2, cov_blk, ← hcut, cov_cut, cov_gaps hrow]
      constructor
      · rintro ⟨h1, h2, h3⟩
        have h4 : ¬ cov (busy l k) t := fun h => h3 (.inl h)
        refine ⟨h1, h2, h4, ?_⟩
        by_cases hf : t < f
        · exact hf
        · exact absurd (.inr ⟨⟨h1, h2, h4⟩, by omega⟩) h3
      · rintro ⟨h1, h2, h3, h4⟩
        refine ⟨h1, h2, ?_⟩
        rintro (h | h)
        · exact h3 h
        · omega
    have hwant : gapsR c.stop (busy (blk k l gs) k) c.start = (gapsR c.stop (busy l k) c.start).filterMap (clip f) := by
      refine apart_ext (gaps_Apart hrow2) (clip_Apart (gaps_Apart hrow)) fun t => ?_
      rw [hcl, cov_clip, cov_gaps hrow]
      constructor
      · rintro ⟨h1, h2, h3, h4⟩; exact ⟨⟨h1, h2, h3⟩, h4⟩
      · rintro ⟨⟨h1, h2, h3⟩, h4⟩; exact ⟨h1, h2, h3, h4⟩
    have hagain : gapsL c.stop (busy (blk k l gs) k) (if c.start < f then f else c.start) = [] := by
      rw [← gaps_cut _ _ hrow2]
      cases hx : (gapsR c.stop (busy (blk k l gs) k) c.start).filterMap (cutS f) with
      | nil => rfl
      | cons x m =>
        exfalso
        have hm : x ∈ (gapsR c.stop (busy (blk k l gs) k) c.start).filterMap (cutS f) := by rw [hx]; simp
        have hlt : x.frm < x.to := by
          rw [List.mem_filterMap] at hm
          obtain ⟨y, hy, he⟩ := hm
          have := gapsR_mem _ _ hrow2 y hy
          unfold cutS at he
          split at he
          · cases he
          · cases he
            simp only
            split <;> omega
        have := cov_cut.1 (show cov ((gapsR c.stop (busy (blk k l gs) k) c.start).filterMap (cutS f)) x.frm from ⟨x, hm, Int.le_refl _, hlt⟩)
        have h2 := (hcl x.frm).1 this.1
        omega
    have hb2 : blkC q cs (blk k l gs) k f = 0 := by
      unfold blkC
      rw [if_neg (by simp [ckm]), hc]
      simp only [hagain, List.length_nil]
      rw [if_neg (by omega)]
    have hm2 : blkL q cs (blk k l gs) k f = blk k l gs := by
      unfold blkL
      rw [if_neg (by simp [hb2]), hc]
      simp only [hagain]
      rfl
    have hfl := gapsR_len c.stop (busy l k) c.start
    have hbl := busy_len l k
    have hll := gapsR_len c.stop (busy (blk k l gs) k) c.start
    have hbl2 := busy_len (blk k l gs) k
    have q1 := s27 q cs l k f; rw [hb, hmore] at q1
    have q2 := s15 q cs l k; rw [hck, hfree] at q2
    have q3 := s15 q cs (blk k l gs) k; rw [ckm, hleft] at q3
    have q4 := s27 q cs (blk k l gs) k f; rw [hb2, hm2] at q4
    have q5 := s28 (blk k l gs) (blk k l gs) (by omega)
    have q6 := s21 (gapsR c.stop (busy (blk k l gs) k) c.start) ((gapsR c.stop (busy l k) c.start).filterMap (clip f)) (by omega)
    rw [decide_eq_true hwant] at q6
    have hnew : ∀ x ∈ blk k l gs, x ∉ l → x.contact = k ∧ x.ticket = 0 ∧ ¬ x.beg < f := by
      intro x hx hn
      rcases (blk_mem k gs l x).1 hx with h | ⟨g, hg, rfl⟩
      · exact absurd h hn
      · refine ⟨rfl, rfl, ?_⟩
        rw [← hgs] at hg
        have := gapsL_mem _ _ _ hrow (show c.start ≤ (if c.start < f then f else c.start) by split <;> omega) g hg
        show ¬ g.frm < f
        have := this.1
        split at this <;> omega
    have hold : ∀ x ∈ l, x ∈ blk k l gs := fun x hx => (blk_mem k gs l x).2 (.inl hx)
    generalize blk k l gs = more at *
    generalize gapsR c.stop (busy l k) c.start = free at *
    generalize gapsR c.stop (busy more k) c.start = left at *
    refine Ev.rw (T' := ?TT) ((s11 q cs l).and (q1.and (q2.and (q3.and (q4.and q5))))) (fun n h => ?g1) ?g2
    case g1 =>
      obtain ⟨h1, h2, h3, h4, h5, h6⟩ := h
      simp only [h1, h2, h3, h4, h5, h6, vI_mk, vB_mk, vS_mk, vL_mk, sVer_mk, sOff_mk, sLen_mk, oVer_mk, oEs_mk, cI_mk, cB_mk, cS_mk, cL_mk, cVer_mk, cOff_mk, cLen_mk, gI_zero, gI_succ, gB_zero, gB_succ, gS_zero, gS_succ, gL_zero, gL_succ, okI_zero, okI_succ, okB_zero, okB_succ, okS_zero, okS_succ, okL_zero, okL_succ, isIntT_int, isBoolT_bool, isStrT_str, isSlT_sl, intOf_int, boolOf_bool, strOf_str, slOf_sl, treeOf_t, srVer_sref, srOff_sref, srLen_sref, ver_row, esOf_row, cellOf_box, List.getD_cons_zero, List.getD_cons_succ, decide_true, decide_false, cnd_true, cnd_false, true_and, and_true, false_and, and_false, Option.bind_some, Option.bind_none, List.length_cons, List.length_nil, List.length_map, List.getElem?_map, Option.map_some, Option.map_none, Int.toNat_natCast, reduceCtorEq, eq_self, if_true, if_false, Nat.zero_add, Nat.reduceAdd, Nat.reduceEqDiff, Int.natCast_nonneg, List.drop_zero, or_true, true_or, or_false, false_or, Bool.not_true, Bool.not_false, Bool.false_eq_true, decide_eq_true_eq, ge_iff_le, gt_iff_lt, hg, bne_self_eq_false]
      rfl
    case g2 =>
      refine loop_overQ (fun (r : Bool) => [Tree.bool r]) free (fun i (s : Nat × List Span) => (([.sref 0 s.1 0 s.2.length, .t (tI i)], [.row false s.1 2 (s.2.map Span.enc)]) : List AV × Heap)) (fun _ s x => .next (match clip f x with | some y => (s.1 + 1, s.2 ++ [y]) | none => s)) (fun _ => true) (fun i s => s.2 = (free.take i).filterMap (clip f)) (0, []) rfl (by simp) ?_
        (fun i s x hx hI => ?_) (fun i s x s' hx hI hs' => ?_) (fun s hI => ?_)
      · exact runL_fold (fun (s : Nat × List Span) x => match clip f x with | some y => (s.1 + 1, s.2 ++ [y]) | none => s) (fun _ => true) 0 free (0, [])
      · have hi := lt_of_some hx
        obtain ⟨v, out⟩ := s
        simp only at hI
        have ho : out.length + 1 ≤ 1073741824 := by
          have : out.length ≤ free.length := by
            rw [hI]
            refine Nat.le_trans (List.length_filterMap_le _ _) ?_
            simp
            omega
          omega
        refine Ev.of fun n again => ?_
        simp only [vI_mk, vB_mk, vS_mk, vL_mk, sVer_mk, sOff_mk, sLen_mk, oVer_mk, oEs_mk, cI_mk, cB_mk, cS_mk, cL_mk, cVer_mk, cOff_mk, cLen_mk, gI_zero, gI_succ, gB_zero, gB_succ, gS_zero, gS_succ, gL_zero, gL_succ, okI_zero, okI_succ, okB_zero, okB_succ, okS_zero, okS_succ, okL_zero, okL_succ, isIntT_int, isBoolT_bool, isStrT_str, isSlT_sl, intOf_int, boolOf_bool, strOf_str, slOf_sl, treeOf_t, srVer_sref, srOff_sref, srLen_sref, ver_row, esOf_row, cellOf_box, List.getD_cons_zero, List.getD_cons_succ, decide_true, decide_false, cnd_true, cnd_false, true_and, and_true, false_and, and_false, Option.bind_some, Option.bind_none, List.length_cons, List.length_nil, List.length_map, List.getElem?_map, Option.map_some, Option.map_none, Int.toNat_natCast, reduceCtorEq, eq_self, if_true, if_false, Nat.zero_add, Nat.reduceAdd, Nat.reduceEqDiff, Int.natCast_nonneg, List.drop_zero, or_true, true_or, or_false, false_or, Bool.not_true, Bool.not_false, Bool.false_eq_true, decide_eq_true_eq, ge_iff_le, gt_iff_lt, hx, Span.enc, (show (i : Int) < free.length by omega), w64_succ (show i < 4611686018427387904 by omega), Rd.go_next, ho]
        unfold clip
        by_cases hcl : x.frm < (if f < x.to then f else x.to)
        · simp only [hcl, vI_mk, vB_mk, vS_mk, vL_mk, sVer_mk, sOff_mk, sLen_mk, oVer_mk, oEs_mk, cI_mk, cB_mk, cS_mk, cL_mk, cVer_mk, cOff_mk, cLen_mk, gI_zero, gI_succ, gB_zero, gB_succ, gS_zero, gS_succ, gL_zero, gL_succ, okI_zero, okI_succ, okB_zero, okB_succ, okS_zero, okS_succ, okL_zero, okL_succ, isIntT_int, isBoolT_bool, isStrT_str, isSlT_sl, intOf_int, boolOf_bool, strOf_str, slOf_sl, treeOf_t, srVer_sref, srOff_sref, srLen_sref, ver_row, esOf_row, cellOf_box, List.getD_cons_zero, List.getD_cons_succ, decide_true, decide_false, cnd_true, cnd_false, true_and, and_true, false_and, and_false, Option.bind_some, Option.bind_none, List.length_cons, List.length_nil, List.length_map, List.getElem?_map, Option.map_some, Option.map_none, Int.toNat_natCast, reduceCtorEq, eq_self, if_true, if_false, Nat.zero_add, Nat.reduceAdd, Nat.reduceEqDiff, Int.natCast_nonneg, List.drop_zero, or_true, true_or, or_false, false_or, Bool.not_true, Bool.not_false, Bool.false_eq_true, decide_eq_true_eq, ge_iff_le, gt_iff_lt]
          simp [Span.enc]
        · simp only [hcl, vI_mk, vB_mk, vS_mk, vL_mk, sVer_mk, sOff_mk, sLen_mk, oVer_mk, oEs_mk, cI_mk, cB_mk, cS_mk, cL_mk, cVer_mk, cOff_mk, cLen_mk, gI_zero, gI_succ, gB_zero, gB_succ, gS_zero, gS_succ, gL_zero, gL_succ, okI_zero, okI_succ, okB_zero, okB_succ, okS_zero, okS_succ, okL_zero, okL_succ, isIntT_int, isBoolT_bool, isStrT_str, isSlT_sl, intOf_int, boolOf_bool, strOf_str, slOf_sl, treeOf_t, srVer_sref, srOff_sref, srLen_sref, ver_row, esOf_row, cellOf_box, List.getD_cons_zero, List.getD_cons_succ, decide_true, decide_false, cnd_true, cnd_false, true_and, and_true, false_and, and_false, Option.bind_some, Option.bind_none, List.length_cons, List.length_nil, List.length_map, List.getElem?_map, Option.map_some, Option.map_none, Int.toNat_natCast, reduceCtorEq, eq_self, if_true, if_false, Nat.zero_add, Nat.reduceAdd, Nat.reduceEqDiff, Int.natCast_nonneg, List.drop_zero, or_true, true_or, or_false, false_or, Bool.not_true, Bool.not_false, Bool.false_eq_true, decide_eq_true_eq, ge_iff_le, gt_iff_lt]
      · simp only [Rd.next.injEq] at hs'
        subst hs'
        obtain ⟨v, out⟩ := s
        simp only at hI
        rw [List.take_add_one, hx, List.filterMap_append]
        cases hcl : clip f x with
        | none => simp [hcl, hI]
        | some y => simp [hcl, hI]
      · obtain ⟨v, out⟩ := s
        simp only [List.take_length] at hI
        simp only [vI_mk, vB_mk, vS_mk, vL_mk, sVer_mk, sOff_mk, sLen_mk, oVer_mk, oEs_mk, cI_mk, cB_mk, cS_mk, cL_mk, cVer_mk, cOff_mk, cLen_mk, gI_zero, gI_succ, gB_zero, gB_succ, gS_zero, gS_succ, gL_zero, gL_succ, okI_zero, okI_succ, okB_zero, okB_succ, okS_zero, okS_succ, okL_zero, okL_succ, isIntT_int, isBoolT_bool, isStrT_str, isSlT_sl, intOf_int, boolOf_bool, strOf_str, slOf_sl, treeOf_t, srVer_sref, srOff_sref, srLen_sref, ver_row, esOf_row, cellOf_box, List.getD_cons_zero, List.getD_cons_succ, decide_true, decide_false, cnd_true, cnd_false, true_and, and_true, false_and, and_false, Option.bind_some, Option.bind_none, List.length_cons, List.length_nil, List.length_map, List.getElem?_map, Option.map_some, Option.map_none, Int.toNat_natCast, reduceCtorEq, eq_self, if_true, if_false, Nat.zero_add, Nat.reduceAdd, Nat.reduceEqDiff, Int.natCast_nonneg, List.drop_zero, or_true, true_or, or_false, false_or, Bool.not_true, Bool.not_false, Bool.false_eq_true, decide_eq_true_eq, ge_iff_le, gt_iff_lt, Int.lt_irrefl]
        refine ev_unused (loop_overQ (fun (r : Bool) => [Tree.bool r]) more (fun i (_ : Unit) => (([.t (tI i)], [.row false v 2 (out.map Span.enc)]) : List AV × Heap)) (fun _ _ x => .next ()) (fun _ => true) (fun i s => True) () rfl trivial (runL_fold (fun _ _ => ()) (fun _ => true) 0 more ())
          (fun i s x hx _ => ?_) (fun _ _ _ _ _ _ _ => trivial) (fun s _ => ?_))
        · have hi := lt_of_some hx
          refine (s29 l x (by omega)).mono fun n h again => ?_
          simp only [vI_mk, vB_mk, vS_mk, vL_mk, sVer_mk, sOff_mk, sLen_mk, oVer_mk, oEs_mk, cI_mk, cB_mk, cS_mk, cL_mk, cVer_mk, cOff_mk, cLen_mk, gI_zero, gI_succ, gB_zero, gB_succ, gS_zero, gS_succ, gL_zero, gL_succ, okI_zero, okI_succ, okB_zero, okB_succ, okS_zero, okS_succ, okL_zero, okL_succ, isIntT_int, isBoolT_bool, isStrT_str, isSlT_sl, intOf_int, boolOf_bool, strOf_str, slOf_sl, treeOf_t, srVer_sref, srOff_sref, srLen_sref, ver_row, esOf_row, cellOf_box, List.getD_cons_zero, List.getD_cons_succ, decide_true, decide_false, cnd_true, cnd_false, true_and, and_true, false_and, and_false, Option.bind_some, Option.bind_none, List.length_cons, List.length_nil, List.length_map, List.getElem?_map, Option.map_some, Option.map_none, Int.toNat_natCast, reduceCtorEq, eq_self, if_true, if_false, Nat.zero_add, Nat.reduceAdd, Nat.reduceEqDiff, Int.natCast_nonneg, List.drop_zero, or_true, true_or, or_false, false_or, Bool.not_true, Bool.not_false, Bool.false_eq_true, decide_eq_true_eq, ge_iff_le, gt_iff_lt, hx, Booking.enc, h, (show (i : Int) < more.length by omega), w64_succ (show i < 4611686018427387904 by omega), Rd.go_next]
          by_cases hm : x ∈ l
          · simp only [hm, vI_mk, vB_mk, vS_mk, vL_mk, sVer_mk, sOff_mk, sLen_mk, oVer_mk, oEs_mk, cI_mk, cB_mk, cS_mk, cL_mk, cVer_mk, cOff_mk, cLen_mk, gI_zero, gI_succ, gB_zero, gB_succ, gS_zero, gS_succ, gL_zero, gL_succ, okI_zero, okI_succ, okB_zero, okB_succ, okS_zero, okS_succ, okL_zero, okL_succ, isIntT_int, isBoolT_bool, isStrT_str, isSlT_sl, intOf_int, boolOf_bool, strOf_str, slOf_sl, treeOf_t, srVer_sref, srOff_sref, srLen_sref, ver_row, esOf_row, cellOf_box, List.getD_cons_zero, List.getD_cons_succ, decide_true, decide_false, cnd_true, cnd_false, true_and, and_true, false_and, and_false, Option.bind_some, Option.bind_none, List.length_cons, List.length_nil, List.length_map, List.getElem?_map, Option.map_some, Option.map_none, Int.toNat_natCast, reduceCtorEq, eq_self, if_true, if_false, Nat.zero_add, Nat.reduceAdd, Nat.reduceEqDiff, Int.natCast_nonneg, List.drop_zero, or_true, true_or, or_false, false_or, Bool.not_true, Bool.not_false, Bool.false_eq_true, decide_eq_true_eq, ge_iff_le, gt_iff_lt]
          · obtain ⟨n1, n2, n3⟩ := hnew x (List.mem_of_getElem? hx) hm
            simp only [hm, vI_mk, vB_mk, vS_mk, vL_mk, sVer_mk, sOff_mk, sLen_mk, oVer_mk, oEs_mk, cI_mk, cB_mk, cS_mk, cL_mk, cVer_mk, cOff_mk, cLen_mk, gI_zero, gI_succ, gB_zero, gB_succ, gS_zero, gS_succ, gL_zero, gL_succ, okI_zero, okI_succ, okB_zero, okB_succ, okS_zero, okS_succ, okL_zero, okL_succ, isIntT_int, isBoolT_bool, isStrT_str, isSlT_sl, intOf_int, boolOf_bool, strOf_str, slOf_sl, treeOf_t, srVer_sref, srOff_sref, srLen_sref, ver_row, esOf_row, cellOf_box, List.getD_cons_zero, List.getD_cons_succ, decide_true, decide_false, cnd_true, cnd_false, true_and, and_true, false_and, and_false, Option.bind_some, Option.bind_none, List.length_cons, List.length_nil, List.length_map, List.getElem?_map, Option.map_some, Option.map_none, Int.toNat_natCast, reduceCtorEq, eq_self, if_true, if_false, Nat.zero_add, Nat.reduceAdd, Nat.reduceEqDiff, Int.natCast_nonneg, List.drop_zero, or_true, true_or, or_false, false_or, Bool.not_true, Bool.not_false, Bool.false_eq_true, decide_eq_true_eq, ge_iff_le, gt_iff_lt, n1, n2, n3, bne_self_eq_false]
        · simp only [vI_mk, vB_mk, vS_mk, vL_mk, sVer_mk, sOff_mk, sLen_mk, oVer_mk, oEs_mk, cI_mk, cB_mk, cS_mk, cL_mk, cVer_mk, cOff_mk, cLen_mk, gI_zero, gI_succ, gB_zero, gB_succ, gS_zero, gS_succ, gL_zero, gL_succ, okI_zero, okI_succ, okB_zero, okB_succ, okS_zero, okS_succ, okL_zero, okL_succ, isIntT_int, isBoolT_bool, isStrT_str, isSlT_sl, intOf_int, boolOf_bool, strOf_str, slOf_sl, treeOf_t, srVer_sref, srOff_sref, srLen_sref, ver_row, esOf_row, cellOf_box, List.getD_cons_zero, List.getD_cons_succ, decide_true, decide_false, cnd_true, cnd_false, true_and, and_true, false_and, and_false, Option.bind_some, Option.bind_none, List.length_cons, List.length_nil, List.length_map, List.getElem?_map, Option.map_some, Option.map_none, Int.toNat_natCast, reduceCtorEq, eq_self, if_true, if_false, Nat.zero_add, Nat.reduceAdd, Nat.reduceEqDiff, Int.natCast_nonneg, List.drop_zero, or_true, true_or, or_false, false_or, Bool.not_true, Bool.not_false, Bool.false_eq_true, decide_eq_true_eq, ge_iff_le, gt_iff_lt, Int.lt_irrefl]
          refine ev_unused (loop_overQ (fun (r : Bool) => [Tree.bool r]) l (fun i (_ : Unit) => (([.t (tI i)], [.row false v 2 (out.map Span.enc)]) : List AV × Heap)) (fun _ _ x => .next ()) (fun _ => true) (fun i s => True) () rfl trivial (runL_fold (fun _ _ => ()) (fun _ => true) 0 l ())
            (fun i s x hx _ => ?_) (fun _ _ _ _ _ _ _ => trivial) (fun s _ => ?_))
          · have hi := lt_of_some hx
            have q := s29 more x (by omega)
            rw [show decide (x ∈ more) = true from decide_eq_true (hold x (List.mem_of_getElem? hx))] at q
            refine q.mono fun n h again => ?_
            simp only [vI_mk, vB_mk, vS_mk, vL_mk, sVer_mk, sOff_mk, sLen_mk, oVer_mk, oEs_mk, cI_mk, cB_mk, cS_mk, cL_mk, cVer_mk, cOff_mk, cLen_mk, gI_zero, gI_succ, gB_zero, gB_succ, gS_zero, gS_succ, gL_zero, gL_succ, okI_zero, okI_succ, okB_zero, okB_succ, okS_zero, okS_succ, okL_zero, okL_succ, isIntT_int, isBoolT_bool, isStrT_str, isSlT_sl, intOf_int, boolOf_bool, strOf_str, slOf_sl, treeOf_t, srVer_sref, srOff_sref, srLen_sref, ver_row, esOf_row, cellOf_box, List.getD_cons_zero, List.getD_cons_succ, decide_true, decide_false, cnd_true, cnd_false, true_and, and_true, false_and, and_false, Option.bind_some, Option.bind_none, List.length_cons, List.length_nil, List.length_map, List.getElem?_map, Option.map_some, Option.map_none, Int.toNat_natCast, reduceCtorEq, eq_self, if_true, if_false, Nat.zero_add, Nat.reduceAdd, Nat.reduceEqDiff, Int.natCast_nonneg, List.drop_zero, or_true, true_or, or_false, false_or, Bool.not_true, Bool.not_false, Bool.false_eq_true, decide_eq_true_eq, ge_iff_le, gt_iff_lt, hx, Booking.enc, h, (show (i : Int) < l.length by omega), w64_succ (show i < 4611686018427387904 by omega), Rd.go_next]
          · rw [← hI] at q6
            refine (q6.and s12).mono fun n h again => ?_
            have e1 : List.take out.length (List.map Span.enc out) = List.map Span.enc out := List.take_of_length_le (by simp)
            simp only [vI_mk, vB_mk, vS_mk, vL_mk, sVer_mk, sOff_mk, sLen_mk, oVer_mk, oEs_mk, cI_mk, cB_mk, cS_mk, cL_mk, cVer_mk, cOff_mk, cLen_mk, gI_zero, gI_succ, gB_zero, gB_succ, gS_zero, gS_succ, gL_zero, gL_succ, okI_zero, okI_succ, okB_zero, okB_succ, okS_zero, okS_succ, okL_zero, okL_succ, isIntT_int, isBoolT_bool, isStrT_str, isSlT_sl, intOf_int, boolOf_bool, strOf_str, slOf_sl, treeOf_t, srVer_sref, srOff_sref, srLen_sref, ver_row, esOf_row, cellOf_box, List.getD_cons_zero, List.getD_cons_succ, decide_true, decide_false, cnd_true, cnd_false, true_and, and_true, false_and, and_false, Option.bind_some, Option.bind_none, List.length_cons, List.length_nil, List.length_map, List.getElem?_map, Option.map_some, Option.map_none, Int.toNat_natCast, reduceCtorEq, eq_self, if_true, if_false, Nat.zero_add, Nat.reduceAdd, Nat.reduceEqDiff, Int.natCast_nonneg, List.drop_zero, or_true, true_or, or_false, false_or, Bool.not_true, Bool.not_false, Bool.false_eq_true, decide_eq_true_eq, ge_iff_le, gt_iff_lt, Int.lt_irrefl, e1, h.1, h.2]
  · have hmore : blkL q cs l k f = [] := by simp [blkL, hb]
    have q1 := s27 q cs l k f; rw [hmore] at q1
    refine ((s11 q cs l).and (q1.and s12)).mono fun n h => ?_
    obtain ⟨h1, h2, h3⟩ := h
    simp only [h1, h2, h3, vI_mk, vB_mk, vS_mk, vL_mk, sVer_mk, sOff_mk, sLen_mk, oVer_mk, oEs_mk, cI_mk, cB_mk, cS_mk, cL_mk, cVer_mk, cOff_mk, cLen_mk, gI_zero, gI_succ, gB_zero, gB_succ, gS_zero, gS_succ, gL_zero, gL_succ, okI_zero, okI_succ, okB_zero, okB_succ, okS_zero, okS_succ, okL_zero, okL_succ, isIntT_int, isBoolT_bool, isStrT_str, isSlT_sl, intOf_int, boolOf_bool, strOf_str, slOf_sl, treeOf_t, srVer_sref, srOff_sref, srLen_sref, ver_row, esOf_row, cellOf_box, List.getD_cons_zero, List.getD_cons_succ, decide_true, decide_false, cnd_true, cnd_false, true_and, and_true, false_and, and_false, Option.bind_some, Option.bind_none, List.length_cons, List.length_nil, List.length_map, List.getElem?_map, Option.map_some, Option.map_none, Int.toNat_natCast, reduceCtorEq, eq_self, if_true, if_false, Nat.zero_add, Nat.reduceAdd, Nat.reduceEqDiff, Int.natCast_nonneg, List.drop_zero, or_true, true_or, or_false, false_or, Bool.not_true, Bool.not_false, Bool.false_eq_true, decide_eq_true_eq, ge_iff_le, gt_iff_lt, hg, (show (blkC q cs l k f != 0) = true by simp [hb]), List.map_nil]
    simp [cnd_eq]
end Ab
