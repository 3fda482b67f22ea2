/- Queue: the law Expedited, joined. -/
import Derived.Test.YtblkfmemhpjbgaaQuQ
set_option linter.unusedVariables false
set_option linter.unusedSimpArgs false
namespace Ab
open Go


theorem fresh_fresh (w : List Entry) (t : Int) : freshQ (freshQ w t) t = freshQ w t := fresh_idem w t
theorem CX.step {l : List Arr} (hg : GoodA l) {rate : Int} {s s' : QS} (h : CX l s s') (hq : QInv l s) (hsy : SysQ l s) (hsy' : SysQ (l.filter isX) s') {t : Int} (ht : timeQ s = some t) : CX l (stepQ l rate t s) (stepQ (l.filter isX) rate t s') ∧ ((stepQ (l.filter isX) rate t s').busy = false → (stepQ (l.filter isX) rate t s').wait = []) := by
  have hcs : s.co.Pairwise fun a b => a.at_ ≤ b.at_ := by rw [hq.co]; exact hg.srt.sublist (List.drop_sublist _ _)
  obtain ⟨_, hle⟩ := time_le hcs ht
  have e1 : (endQ l t s).co = s.co := by unfold endQ; split <;> rfl
  have a1 := h.end hsy hg.dis t
  have y1 := hsy.end t
  have y1' := hsy'.end t
  have m1 := hq.mid.end t
  have y2 := y1.take t
  have y2' := y1'.take t
  have m2 := m1.take hg t
  have a2 := a1.take y2 y2'.srt (by rw [e1]; exact hcs) (by rw [e1]; exact hle)
  have a3 := a2.exp t
  have y3 := y2.exp t
  have m3 := m2.exp t
  obtain ⟨a4, i4⟩ := a3.pre y3 m3.wv m3.nv (t := t) (fresh_idem _ _)
  exact a4.beg (y3.pre t) (m3.pre t).wv i4 rate t
/-- A time at which nothing happens does not matter. -/
theorem skip {l : List Arr} {rate : Int} {s : QS} (hsy : SysQ l s) (hi : s.busy = false → s.wait = []) (hx : s.busy = true → s.now.prio = 2) (hco : s.co.Pairwise fun a b => a.at_ ≤ b.at_) {t : Int} (hb : s.busy = true → t ≤ s.fin) (ha : ∀ a ∈ s.co, t ≤ a.at_) : runQ l rate (stepQ l rate t s) = runQ l rate s := by
  by_cases hnow : timeQ s = some t
  · have : roundQ l rate s = .next (stepQ l rate t s) := by unfold roundQ; rw [hnow]
    rw [runQ_eq l rate s, this]
    rfl
  · -- nothing ends, nothing arrives
    have h1 : endQ l t s = s := by
      unfold endQ
      rw [if_neg]
      rintro ⟨h1, h2⟩
      refine hnow ?_
      unfold timeQ
      rw [h1]
      cases hc : s.co with
      | nil => simp [h2]
      | cons a r =>
        have := ha a (by rw [hc]; simp)
        simp only [Option.some.injEq]
        rw [if_neg (by omega), h2]
    have h2 : ∀ a ∈ s.co, ¬ a.at_ = t := by
      intro a ham hat
      refine hnow ?_
      unfold timeQ
      cases hc : s.co with
      | nil => rw [hc] at ham; simp at ham
      | cons b r =>
        have hbt : b.at_ = t := by
          have h3 := ha b (by rw [hc]; simp)
          rw [hc] at ham hco
          rcases List.mem_cons.1 ham with rfl | ham
          · exact hat
          · have := (List.pairwise_cons.1 hco).1 a ham
            omega
        cases hbz : s.busy with
        | false => simp [hbt]
        | true =>
          have := hb hbz
          simp only [Option.some.injEq]
          split <;> omega
    have h3 : takeQ t s = s := by
      have e1 : (s.co.takeWhile fun a => decide (a.at_ = t)) = [] ∧ (s.co.dropWhile fun a => decide (a.at_ = t)) = s.co := by
        cases hc : s.co with
        | nil => exact ⟨rfl, rfl⟩
        | cons b r =>
          have : ¬ b.at_ = t := h2 b (by rw [hc]; simp)
          simp [List.takeWhile_cons, List.dropWhile_cons, this]
      unfold takeQ
      rw [e1.1, e1.2]
      rfl
    have h4 : stepQ l rate t s = expQ t s := by
      unfold stepQ
      rw [h1, h3]
      have p1 : preQ t (expQ t s) = expQ t s := by
        unfold preQ
        split
        · rw [if_neg]
          rintro ⟨p1, p2⟩
          have := hx p1
          have := p2.2
          simp only [expQ] at this
          omega
        · rfl
      rw [p1]
      unfold begQ
      cases hbz : s.busy with
      | true => rw [if_pos (show (expQ t s).busy = true from hbz)]
      | false =>
        have hw : (expQ t s).wait = [] := by simp only [expQ, hi hbz]; rfl
        rw [if_neg (by simp [expQ, hbz]), hw]
    rw [h4, runQ_eq l rate s, runQ_eq l rate (expQ t s)]
    have htt : timeQ (expQ t s) = timeQ s := rfl
    unfold roundQ
    rw [htt]
    cases htm : timeQ s with
    | none => rfl
    | some u =>
      simp only [Rd.fin]
      have htu : t ≤ u := by
        unfold timeQ at htm
        split at htm
        · rename_i hbz hc
          cases htm; exact hb hbz
        · rename_i a r hbz hc
          cases htm
          have h5 := hb hbz
          have h6 := ha a (by rw [hc]; simp)
          split <;> omega
        · rename_i a r hbz hc
          cases htm
          exact ha a (by rw [hc]; simp)
        · cases htm
      have h5 : endQ l u (expQ t s) = expQ t (endQ l u s) := by unfold endQ expQ; split <;> rfl
      have h6 : expQ u (takeQ u (expQ t (endQ l u s))) = expQ u (takeQ u (endQ l u s)) := by
        have y1 := (hsy.end u).take u
        have y2 := ((hsy.end u).exp t).take u
        have hw : (expQ u (takeQ u (expQ t (endQ l u s)))).wait = (expQ u (takeQ u (endQ l u s))).wait := by
          refine srt_ext (y2.exp u).srt (y1.exp u).srt fun x => ?_
          simp only [expQ, takeQ, freshQ]
          rw [List.mem_filter, List.mem_filter, insF_mem, insF_mem, List.mem_filter]
          constructor
          · rintro ⟨⟨h, _⟩ | h, hxu⟩
            · exact ⟨.inl h, hxu⟩
            · exact ⟨.inr h, hxu⟩
          · rintro ⟨h | h, hxu⟩
            · refine ⟨.inl ⟨h, ?_⟩, hxu⟩
              simp only [decide_eq_true_eq] at hxu ⊢
              omega
            · exact ⟨.inr h, hxu⟩
        simp only [expQ, takeQ] at hw ⊢
        rw [hw]
      unfold stepQ
      rw [h5, h6]
theorem expedited {l : List Arr} (hg : GoodA l) {rate : Int} (hr : 1 ≤ rate ∧ rate ≤ 1000) : ∀ (k : Nat) (s s' : QS), muQ s ≤ k → QInv l s → SysQ l s → SysQ (l.filter isX) s' → CX l s s' → (s'.busy = false → s'.wait = []) → runQ (l.filter isX) rate s' = sel l (runQ l rate s)
  | k, s, s', hk, hq, hsy, hsy', hc, hi => by
    have hcs : s.co.Pairwise fun a b => a.at_ ≤ b.at_ := by rw [hq.co]; exact hg.srt.sublist (List.drop_sublist _ _)
    cases ht : timeQ s with
    | none =>
      have hn : roundQ l rate s = .done s.out := by unfold roundQ; rw [ht]
      have : s.busy = false ∧ s.co = [] := by
        unfold timeQ at ht
        split at ht <;> first | cases ht | skip
        rename_i hb hc
        exact ⟨hb, hc⟩
      have hb' : s'.busy = false := by
        cases h : s'.busy with
        | false => rfl
        | true => have := (hc.busy.1 h).1; simp_all
      have hco' : s'.co = [] := by rw [hc.co, this.2]; rfl
      have hn' : roundQ (l.filter isX) rate s' = .done s'.out := by
        unfold roundQ
        have : timeQ s' = none := by unfold timeQ; rw [hb', hco']
        rw [this]
      rw [runQ_eq, runQ_eq l rate s, hn, hn']
      exact hc.out
    | some t =>
      have hrd : roundQ l rate s = .next (stepQ l rate t s) := by unfold roundQ; rw [ht]
      have hm := mu_step (l := l) (rate := rate) ht
      obtain ⟨k, rfl⟩ : ∃ q, k = q + 1 := ⟨k - 1, by omega⟩
      obtain ⟨t1, t2⟩ := time_le hcs ht
      obtain ⟨c1, i1⟩ := hc.step hg hq hsy hsy' (rate := rate) ht
      have hsk := skip (l := l.filter isX) (rate := rate) hsy' hi (fun hb => by rw [(hc.nf hb).1]; exact (hc.busy.1 hb).2) (by rw [hc.co]; exact hcs.sublist List.filter_sublist) (t := t)
        (fun hb => by rw [(hc.nf hb).2]; exact t1 (hc.busy.1 hb).1) (fun a ha => by rw [hc.co] at ha; exact t2 a (List.mem_filter.1 ha).1)
      rw [← hsk, runQ_eq l rate s, hrd]
      exact expedited hg hr k _ _ (by omega) (hq.step hg hr ht) (hsy.step rate t) (hsy'.step rate t) c1 i1
theorem serve_x {l : List Arr} (hg : GoodA l) {rate : Int} (hr : 1 ≤ rate ∧ rate ≤ 1000) : serveQ (l.filter isX) rate = sel l (serveQ l rate) := by
  have hg' := hg.sub (l' := l.filter isX) List.filter_sublist
  refine expedited hg hr _ (startQ l) (startQ (l.filter isX)) (Nat.le_refl _) QInv.start (SysQ.start hg) (SysQ.start hg') ⟨rfl, rfl, by simp [startQ], fun h => by simp [startQ] at h, ?_⟩ (fun _ => rfl)
  simp only [startQ]
  rw [sel_rep]
def xStep (o : List Int) (i : Nat) (s : List Arr × List Int) (a : Arr) : List Arr × List Int := if isX a = true then (s.1 ++ [a], s.2 ++ (o[i]?).toList) else s
theorem sel_take : ∀ (l : List Arr) (o : List Int) (i : Nat) (a : Arr) (v : Int), l[i]? = some a → o[i]? = some v → sel (l.take (i + 1)) (o.take (i + 1)) = sel (l.take i) (o.take i) ++ if isX a = true then [v] else []
  | [], o, i, a, v, ha, hv => by simp at ha
  | b :: l, [], i, a, v, ha, hv => by simp at hv
  | b :: l, w :: o, 0, a, v, ha, hv => by
    simp only [List.getElem?_cons_zero, Option.some.injEq] at ha hv
    subst ha hv
    simp only [List.take_succ_cons, List.take_zero, sel]
    split <;> rfl
  | b :: l, w :: o, i + 1, a, v, ha, hv => by
    simp only [List.getElem?_cons_succ] at ha hv
    have ih := sel_take l o i a v ha hv
    simp only [List.take_succ_cons, sel]
    rw [ih]
    split <;> rfl
theorem law4 (l : List Arr) (rate : Int) : Runs C 4 [.sl 5 (l.map Arr.enc), tI rate] [.bool true] := by
  refine Runs.of (fun n => e4 n _ _) ?_
  have hgt := s11 (l.map Arr.enc)
  rw [List.length_map] at hgt
  cases hgr : great l.length with
  | true =>
    rw [hgr] at hgt
    refine (hgt.and s12).mono fun n h => ?_
    simp only [h.1, h.2, vI_mk, vB_mk, vS_mk, vL_mk, sVer_mk, sOff_mk, sLen_mk, oVer_mk, oEs_mk, cI_mk, cB_mk, cS_mk, cL_mk, cVer_mk, cOff_mk, cLen_mk, gI_zero, gI_succ, gB_zero, gB_succ, gS_zero, gS_succ, gL_zero, gL_succ, okI_zero, okI_succ, okB_zero, okB_succ, okS_zero, okS_succ, okL_zero, okL_succ, isIntT_int, isBoolT_bool, isStrT_str, isSlT_sl, intOf_int, boolOf_bool, strOf_str, slOf_sl, treeOf_t, srVer_sref, srOff_sref, srLen_sref, ver_row, esOf_row, cellOf_box, aI_mk, aB_mk, aS_mk, aL_mk, aggOf_agg, join_eq, List.getD_cons_zero, List.getD_cons_succ, decide_true, decide_false, cnd_true, cnd_false, true_and, and_true, false_and, and_false, Option.bind_some, Option.bind_none, List.length_cons, List.length_nil, List.length_map, List.getElem?_map, Option.map_some, Option.map_none, Int.toNat_natCast, reduceCtorEq, eq_self, if_true, if_false, Nat.zero_add, Nat.reduceAdd, Nat.reduceEqDiff, Int.natCast_nonneg, List.drop_zero, or_true, true_or, or_false, false_or, Bool.not_true, Bool.not_false, Bool.false_eq_true, decide_eq_true_eq, ge_iff_le, gt_iff_lt]
  | false =>
    rw [hgr] at hgt
    have h70 := big_great hgr
    have h13 := s13 l rate (by omega)
    by_cases hc : checkR l rate = 0
    · obtain ⟨hr, hg⟩ := checkR_zero.1 hc
      have hs : servR l rate = (serveQ l rate, 0) := by unfold servR; rw [if_neg (by simp [hc])]
      rw [hs] at h13
      have hlen := serve_len hg hr
      have hxs := serve_x hg hr
      generalize serveQ l rate = o at h13 hlen hxs
      have hg2 := hg.sub (l' := l.filter isX) List.filter_sublist
      have hfl : (l.filter isX).length ≤ l.length := List.length_filter_le _ _
      have hs2 : servR (l.filter isX) rate = (sel l o, 0) := by unfold servR; rw [if_neg (by simp [checkR_zero.2 ⟨hr, hg2⟩]), hxs]
      have k13 := s13 (l.filter isX) rate (by omega)
      rw [hs2] at k13
      have hsl : (sel l o).length = (l.filter isX).length := by rw [← hxs, serve_len hg2 hr]
      refine Ev.rw (T' := ?TT) (hgt.and h13) (fun k h => ?g1) ?g2
      case g1 =>
        obtain ⟨h1, h2⟩ := h
        simp only [h1, h2, vI_mk, vB_mk, vS_mk, vL_mk, sVer_mk, sOff_mk, sLen_mk, oVer_mk, oEs_mk, cI_mk, cB_mk, cS_mk, cL_mk, cVer_mk, cOff_mk, cLen_mk, gI_zero, gI_succ, gB_zero, gB_succ, gS_zero, gS_succ, gL_zero, gL_succ, okI_zero, okI_succ, okB_zero, okB_succ, okS_zero, okS_succ, okL_zero, okL_succ, isIntT_int, isBoolT_bool, isStrT_str, isSlT_sl, intOf_int, boolOf_bool, strOf_str, slOf_sl, treeOf_t, srVer_sref, srOff_sref, srLen_sref, ver_row, esOf_row, cellOf_box, aI_mk, aB_mk, aS_mk, aL_mk, aggOf_agg, join_eq, List.getD_cons_zero, List.getD_cons_succ, decide_true, decide_false, cnd_true, cnd_false, true_and, and_true, false_and, and_false, Option.bind_some, Option.bind_none, List.length_cons, List.length_nil, List.length_map, List.getElem?_map, Option.map_some, Option.map_none, Int.toNat_natCast, reduceCtorEq, eq_self, if_true, if_false, Nat.zero_add, Nat.reduceAdd, Nat.reduceEqDiff, Int.natCast_nonneg, List.drop_zero, or_true, true_or, or_false, false_or, Bool.not_true, Bool.not_false, Bool.false_eq_true, decide_eq_true_eq, ge_iff_le, gt_iff_lt, bne_self_eq_false, J4_2, hlen]
        rfl
      case g2 =>
        refine loop_overQ (fun r => [Tree.bool r]) l (fun i (s : List Arr × List Int) => (([.sref 0 s.1.length 0 s.1.length, .sref 1 s.2.length 0 s.2.length, .t (tI i)], [.row false s.1.length 5 (s.1.map Arr.enc), .row false s.2.length 1 (s.2.map encI)]) : List AV × Heap))
          (fun i s a => .next (xStep o i s a)) (fun _ => true) (fun i s => s = ((l.take i).filter isX, sel (l.take i) (o.take i)) ∧ s.1.length ≤ i ∧ s.2.length ≤ i) ([], []) rfl ⟨by simp [sel], by simp, by simp⟩ (r := true) ?_
          (fun i s a ha hI => Ev.of fun n again => ?_) (fun i s a s' ha hI hs' => ?_) (fun s hI => ?_)
        · have : ∀ (c : List Arr) (j : Nat) (s : List Arr × List Int), runL (fun i s a => Rd.next (xStep o i s a)) (fun _ => true) j c s = true := by
            intro c
            induction c with
            | nil => intro j s; rfl
            | cons x c ih => intro j s; exact ih _ _
          exact this l 0 _
        · have hi := lt_of_some ha
          obtain ⟨i1, i2, i3⟩ := hI
          obtain ⟨v, hv⟩ : ∃ v, o[i]? = some v := ⟨_, List.getElem?_eq_getElem (show i < o.length by omega)⟩
          have e1 : List.take s.1.length (s.1.map Arr.enc) = s.1.map Arr.enc := List.take_of_length_le (by simp)
          have e2 : List.take s.2.length (s.2.map encI) = s.2.map encI := List.take_of_length_le (by simp)
          unfold xStep
          by_cases hx : a.e.prio = 2
          · have hx' : isX a = true := by simpa [isX] using hx
            rw [if_pos hx']
            have hbe : (a.e.prio == 2) = true := by simpa using hx
            simp only [L4_1, vI_mk, vB_mk, vS_mk, vL_mk, sVer_mk, sOff_mk, sLen_mk, oVer_mk, oEs_mk, cI_mk, cB_mk, cS_mk, cL_mk, cVer_mk, cOff_mk, cLen_mk, gI_zero, gI_succ, gB_zero, gB_succ, gS_zero, gS_succ, gL_zero, gL_succ, okI_zero, okI_succ, okB_zero, okB_succ, okS_zero, okS_succ, okL_zero, okL_succ, isIntT_int, isBoolT_bool, isStrT_str, isSlT_sl, intOf_int, boolOf_bool, strOf_str, slOf_sl, treeOf_t, srVer_sref, srOff_sref, srLen_sref, ver_row, esOf_row, cellOf_box, aI_mk, aB_mk, aS_mk, aL_mk, aggOf_agg, join_eq, List.getD_cons_zero, List.getD_cons_succ, decide_true, decide_false, cnd_true, cnd_false, true_and, and_true, false_and, and_false, Option.bind_some, Option.bind_none, List.length_cons, List.length_nil, List.length_map, List.getElem?_map, Option.map_some, Option.map_none, Int.toNat_natCast, reduceCtorEq, eq_self, if_true, if_false, Nat.zero_add, Nat.reduceAdd, Nat.reduceEqDiff, Int.natCast_nonneg, List.drop_zero, or_true, true_or, or_false, false_or, Bool.not_true, Bool.not_false, Bool.false_eq_true, decide_eq_true_eq, ge_iff_le, gt_iff_lt, ha, Arr.enc, (show (i : Int) < (l.length : Int) by omega), hbe, hv, encI, Nat.le_refl, (show s.1.length + 1 ≤ 1073741824 by omega), (show s.2.length + 1 ≤ 1073741824 by omega), e1, e2, w64_succ (show i < 4611686018427387904 by omega), Rd.go_next, List.map_append, List.map_cons, List.map_nil, List.length_append, Option.toList]
          · have hx' : ¬ isX a = true := by simpa [isX] using hx
            rw [if_neg hx']
            have hbe : (a.e.prio == 2) = false := by simpa using hx
            simp only [L4_1, vI_mk, vB_mk, vS_mk, vL_mk, sVer_mk, sOff_mk, sLen_mk, oVer_mk, oEs_mk, cI_mk, cB_mk, cS_mk, cL_mk, cVer_mk, cOff_mk, cLen_mk, gI_zero, gI_succ, gB_zero, gB_succ, gS_zero, gS_succ, gL_zero, gL_succ, okI_zero, okI_succ, okB_zero, okB_succ, okS_zero, okS_succ, okL_zero, okL_succ, isIntT_int, isBoolT_bool, isStrT_str, isSlT_sl, intOf_int, boolOf_bool, strOf_str, slOf_sl, treeOf_t, srVer_sref, srOff_sref, srLen_sref, ver_row, esOf_row, cellOf_box, aI_mk, aB_mk, aS_mk, aL_mk, aggOf_agg, join_eq, List.getD_cons_zero, List.getD_cons_succ, decide_true, decide_false, cnd_true, cnd_false, true_and, and_true, false_and, and_false, Option.bind_some, Option.bind_none, List.length_cons, List.length_nil, List.length_map, List.getElem?_map, Option.map_some, Option.map_none, Int.toNat_natCast, reduceCtorEq, eq_self, if_true, if_false, Nat.zero_add, Nat.reduceAdd, Nat.reduceEqDiff, Int.natCast_nonneg, List.drop_zero, or_true, true_or, or_false, false_or, Bool.not_true, Bool.not_false, Bool.false_eq_true, decide_eq_true_eq, ge_iff_le, gt_iff_lt, ha, Arr.enc, (show (i : Int) < (l.length : Int) by omega), hbe, w64_succ (show i < 4611686018427387904 by omega), Rd.go_next]
        · have hi := lt_of_some ha
          obtain ⟨i1, i2, i3⟩ := hI
          obtain ⟨v, hv⟩ : ∃ v, o[i]? = some v := ⟨_, List.getElem?_eq_getElem (show i < o.length by omega)⟩
          simp only [Rd.next.injEq] at hs'
          subst hs'
          have ht : l.take (i + 1) = l.take i ++ [a] := by rw [List.take_add_one, ha]; rfl
          have hst := sel_take l o i a v ha hv
          unfold xStep
          rw [hv, hst, ht, List.filter_append]
          cases hx : isX a with
          | true =>
            refine ⟨?_, by simp; omega, by simp; omega⟩
            simp [i1, hx]
          | false =>
            refine ⟨?_, by simp; omega, by simp; omega⟩
            simp [i1, hx]
        · obtain ⟨i1, i2, i3⟩ := hI
          rw [List.take_length, List.take_of_length_le (show o.length ≤ l.length by omega)] at i1
          subst i1
          have e1 : List.take (l.filter isX).length ((l.filter isX).map Arr.enc) = (l.filter isX).map Arr.enc := List.take_of_length_le (by simp)
          have e2 : List.take (sel l o).length ((sel l o).map encI) = (sel l o).map encI := List.take_of_length_le (by simp)
          refine (k13.and (s12.and (s15 (sel l o) (sel l o) (by omega)))).mono fun n h again => ?_
          obtain ⟨h1, h2, h3⟩ := h
          simp only [L4_1, vI_mk, vB_mk, vS_mk, vL_mk, sVer_mk, sOff_mk, sLen_mk, oVer_mk, oEs_mk, cI_mk, cB_mk, cS_mk, cL_mk, cVer_mk, cOff_mk, cLen_mk, gI_zero, gI_succ, gB_zero, gB_succ, gS_zero, gS_succ, gL_zero, gL_succ, okI_zero, okI_succ, okB_zero, okB_succ, okS_zero, okS_succ, okL_zero, okL_succ, isIntT_int, isBoolT_bool, isStrT_str, isSlT_sl, intOf_int, boolOf_bool, strOf_str, slOf_sl, treeOf_t, srVer_sref, srOff_sref, srLen_sref, ver_row, esOf_row, cellOf_box, aI_mk, aB_mk, aS_mk, aL_mk, aggOf_agg, join_eq, List.getD_cons_zero, List.getD_cons_succ, decide_true, decide_false, cnd_true, cnd_false, true_and, and_true, false_and, and_false, Option.bind_some, Option.bind_none, List.length_cons, List.length_nil, List.length_map, List.getElem?_map, Option.map_some, Option.map_none, Int.toNat_natCast, reduceCtorEq, eq_self, if_true, if_false, Nat.zero_add, Nat.reduceAdd, Nat.reduceEqDiff, Int.natCast_nonneg, List.drop_zero, or_true, true_or, or_false, false_or, Bool.not_true, Bool.not_false, Bool.false_eq_true, decide_eq_true_eq, ge_iff_le, gt_iff_lt, Int.lt_irrefl, e1, e2, h1, beq_self_eq_true, h3, h2]
    · have hs : servR l rate = ([], checkR l rate) := by unfold servR; rw [if_pos hc]
      rw [hs] at h13
      have hne : (checkR l rate != 0) = true := by simp [hc]
      refine (hgt.and (h13.and s12)).mono fun n h => ?_
      obtain ⟨h1, h2, h3⟩ := h
      simp only [h1, h2, h3, vI_mk, vB_mk, vS_mk, vL_mk, sVer_mk, sOff_mk, sLen_mk, oVer_mk, oEs_mk, cI_mk, cB_mk, cS_mk, cL_mk, cVer_mk, cOff_mk, cLen_mk, gI_zero, gI_succ, gB_zero, gB_succ, gS_zero, gS_succ, gL_zero, gL_succ, okI_zero, okI_succ, okB_zero, okB_succ, okS_zero, okS_succ, okL_zero, okL_succ, isIntT_int, isBoolT_bool, isStrT_str, isSlT_sl, intOf_int, boolOf_bool, strOf_str, slOf_sl, treeOf_t, srVer_sref, srOff_sref, srLen_sref, ver_row, esOf_row, cellOf_box, aI_mk, aB_mk, aS_mk, aL_mk, aggOf_agg, join_eq, List.getD_cons_zero, List.getD_cons_succ, decide_true, decide_false, cnd_true, cnd_false, true_and, and_true, false_and, and_false, Option.bind_some, Option.bind_none, List.length_cons, List.length_nil, List.length_map, List.getElem?_map, Option.map_some, Option.map_none, Int.toNat_natCast, reduceCtorEq, eq_self, if_true, if_false, Nat.zero_add, Nat.reduceAdd, Nat.reduceEqDiff, Int.natCast_nonneg, List.drop_zero, or_true, true_or, or_false, false_or, Bool.not_true, Bool.not_false, Bool.false_eq_true, decide_eq_true_eq, ge_iff_le, gt_iff_lt, J4_2, hne, List.map_nil, Int.natCast_zero, beq_self_eq_true]
end Ab
