/- Queue: Serve of the program answers as the model. -/
import Derived.Test.YtblkfmemhpjbgaaQuM
set_option linter.unusedVariables false
set_option linter.unusedSimpArgs false
set_option maxHeartbeats 1000000
namespace Ab
open Go


theorem while_rel {S R σ Q : Type} {B : Nat → S → (S → Option R) → Option R} (Rel : σ → S → Prop) (step : σ → Rd σ Q) (out : Q → R) (Inv : σ → Prop) (μ : σ → Nat)
    (hstep : ∀ s c, Inv s → Rel s c → (∃ s' c', step s = .next s' ∧ Rel s' c' ∧ Ev fun n => ∀ again, B n c again = again c') ∨ (∃ q, step s = .done q ∧ Ev fun n => ∀ again, B n c again = some (out q)))
    (hinv : ∀ s s', Inv s → step s = .next s' → Inv s' ∧ μ s' < μ s) (res : σ → Q) (hres : ∀ s, Inv s → res s = (step s).fin res) :
    ∀ (k : Nat) (s : σ) (c : S), μ s ≤ k → Inv s → Rel s c → Ev fun n => ∀ m, k < m → loopIter (B n) m c = some (out (res s))
  | k, s, c, hk, hI, hR => by
    rcases hstep s c hI hR with ⟨s', c', hs, hR', he⟩ | ⟨q, hs, he⟩
    · obtain ⟨h1, h2⟩ := hinv s s' hI hs
      obtain ⟨k, rfl⟩ : ∃ q, k = q + 1 := ⟨k - 1, by omega⟩
      have ih := while_rel Rel step out Inv μ hstep hinv res hres k s' c' (by omega) h1 hR'
      refine (he.and ih).mono fun n h m hm => ?_
      obtain ⟨m, rfl⟩ : ∃ q, m = q + 1 := ⟨m - 1, by omega⟩
      show B n _ _ = _
      rw [h.1, hres s hI, hs]
      exact h.2 m (by omega)
    · refine he.mono fun n h m hm => ?_
      obtain ⟨m, rfl⟩ : ∃ q, m = q + 1 := ⟨m - 1, by omega⟩
      show B n _ _ = _
      rw [h, hres s hI, hs]
      rfl
theorem markQ_set {l : List Arr} (hd : l.Pairwise fun a b => a.e.ticket ≠ b.e.ticket) {o : List Int} (ho : o.length = l.length) {i : Nat} {a : Arr} (ha : l[i]? = some a) (t : Int) : markQ l a.e.ticket t o = o.set i t := by
  apply List.ext_getElem?
  intro j
  have hi := lt_of_some ha
  by_cases hj : j < l.length
  · have hl : l[j]? = some l[j] := List.getElem?_eq_getElem hj
    have hv : o[j]? = some o[j] := List.getElem?_eq_getElem (by omega)
    rw [markQ_get ho hl hv, List.getElem?_set]
    by_cases hij : i = j
    · subst hij
      rw [hl] at ha
      have hae := Option.some.inj ha
      rw [if_pos rfl, hae, if_pos rfl, if_pos (by omega)]
    · rw [if_neg hij, hv, if_neg]
      intro h
      rw [List.getElem?_eq_getElem hi] at ha
      rw [← Option.some.inj ha] at h
      rcases Nat.lt_or_gt_of_ne hij with h2 | h2
      · exact List.pairwise_iff_getElem.1 hd i j hi hj h2 h.symm
      · exact List.pairwise_iff_getElem.1 hd j i hj hi h2 h
  · have h1 : (markQ l a.e.ticket t o)[j]? = none := List.getElem?_eq_none (by rw [markQ_len ho]; omega)
    have h2 : (o.set i t)[j]? = none := List.getElem?_eq_none (by simp; omega)
    rw [h1, h2]
theorem p1 (l : List Arr) (hg : GoodA l) {rate : Int} (hr : 1 ≤ rate ∧ rate ≤ 1000) {t : Int} (ht : 0 ≤ t ∧ t ≤ 1099520016384) (s : QS) (hs : QMid l s) (hnow : s.busy = true → ∃ a ∈ l, a.e = s.now) (v : Nat) (es : List (List Tree)) (he : Holds s.wait es) (p6 : List AV × Heap) (h6 : vI p6 0 = t) (d : Bool) (hd : d = decide (s.busy = true ∧ t = s.fin)) :
    ∃ v' es', Holds (stepP l rate t s).wait es' ∧ Ev fun n => ∀ z, J13_28 n z p6 (l.map Arr.enc) ([.t (.bool d)], hP rate s v es) = z ([], hP rate (stepP l rate t s) v' es') := by
  have hlen := hg.len
  cases d with
  | false =>
    have hend : endQ l t s = s := by unfold endQ; rw [if_neg (of_decide_eq_false hd.symm)]
    obtain ⟨v', es', q1, q2⟩ := p2 l hg hr ht p6 h6 _ s rfl hs v es he
    unfold stepP
    rw [hend]
    refine ⟨v', es', q1, (q2.and (Ev.ge ((s.co.takeWhile fun a => decide (a.at_ = t)).length + 1))).mono fun n h z => ?_⟩
    have h1 := h.1 (fun p24 => J13_26 n z p24) n (by omega)
    simp only [hP1, bxS] at h1
    simp only [J13_28, J13_27, hP, bxS, vI_mk, vB_mk, vS_mk, vL_mk, sVer_mk, sOff_mk, sLen_mk, oVer_mk, oEs_mk, cI_mk, cB_mk, cS_mk, cL_mk, cVer_mk, cOff_mk, cLen_mk, gI_zero, gI_succ, gB_zero, gB_succ, gS_zero, gS_succ, gL_zero, gL_succ, okI_zero, okI_succ, okB_zero, okB_succ, okS_zero, okS_succ, okL_zero, okL_succ, isIntT_int, isBoolT_bool, isStrT_str, isSlT_sl, intOf_int, boolOf_bool, strOf_str, slOf_sl, treeOf_t, srVer_sref, srOff_sref, srLen_sref, ver_row, esOf_row, cellOf_box, aI_mk, aB_mk, aS_mk, aL_mk, aggOf_agg, join_eq, List.getD_cons_zero, List.getD_cons_succ, decide_true, decide_false, cnd_true, cnd_false, true_and, and_true, false_and, and_false, Option.bind_some, Option.bind_none, List.length_cons, List.length_nil, List.length_map, List.getElem?_map, Option.map_some, Option.map_none, Int.toNat_natCast, reduceCtorEq, eq_self, if_true, if_false, Nat.zero_add, Nat.reduceAdd, Nat.reduceEqDiff, Int.natCast_nonneg, List.drop_zero, or_true, true_or, or_false, false_or, Bool.not_true, Bool.not_false, Bool.false_eq_true, decide_eq_true_eq, ge_iff_le, gt_iff_lt]
    refine h1.trans ?_
    simp only [J13_26, hP, bxS, vI_mk, vB_mk, vS_mk, vL_mk, sVer_mk, sOff_mk, sLen_mk, oVer_mk, oEs_mk, cI_mk, cB_mk, cS_mk, cL_mk, cVer_mk, cOff_mk, cLen_mk, gI_zero, gI_succ, gB_zero, gB_succ, gS_zero, gS_succ, gL_zero, gL_succ, okI_zero, okI_succ, okB_zero, okB_succ, okS_zero, okS_succ, okL_zero, okL_succ, isIntT_int, isBoolT_bool, isStrT_str, isSlT_sl, intOf_int, boolOf_bool, strOf_str, slOf_sl, treeOf_t, srVer_sref, srOff_sref, srLen_sref, ver_row, esOf_row, cellOf_box, aI_mk, aB_mk, aS_mk, aL_mk, aggOf_agg, join_eq, List.getD_cons_zero, List.getD_cons_succ, decide_true, decide_false, cnd_true, cnd_false, true_and, and_true, false_and, and_false, Option.bind_some, Option.bind_none, List.length_cons, List.length_nil, List.length_map, List.getElem?_map, Option.map_some, Option.map_none, Int.toNat_natCast, reduceCtorEq, eq_self, if_true, if_false, Nat.zero_add, Nat.reduceAdd, Nat.reduceEqDiff, Int.natCast_nonneg, List.drop_zero, or_true, true_or, or_false, false_or, Bool.not_true, Bool.not_false, Bool.false_eq_true, decide_eq_true_eq, ge_iff_le, gt_iff_lt]
  | true =>
    have hbt := of_decide_eq_true hd.symm
    obtain ⟨a, ha, hae⟩ := hnow hbt.1
    obtain ⟨i, hi⟩ := List.mem_iff_getElem?.1 ha
    have hil := lt_of_some hi
    have hend : endQ l t s = { s with busy := false, out := s.out.set i t } := by
      unfold endQ
      rw [if_pos hbt, ← hae, markQ_set hg.dis hs.out hi]
    have hmid := hs.end t
    rw [hend] at hmid
    obtain ⟨v', es', q1, q2⟩ := p2 l hg hr ht p6 h6 _ { s with busy := false, out := s.out.set i t } rfl hmid v es he
    unfold stepP
    rw [hend]
    -- the place of the entry
    have hidx : idx (fun y : Arr => decide (y.e.ticket = s.now.ticket)) l = (i : Int) := by
      rcases idx_cases (fun y : Arr => decide (y.e.ticket = s.now.ticket)) l with ⟨_, hn⟩ | ⟨j, x, hj, hx, hp, hb⟩
      · have := hn a ha
        rw [hae] at this
        simp at this
      · rw [hj]
        have hjl := lt_of_some hx
        have : j = i := by
          rcases Nat.lt_trichotomy j i with h | h | h
          · rw [List.getElem?_eq_getElem hjl] at hx
            rw [List.getElem?_eq_getElem hil] at hi
            have := List.pairwise_iff_getElem.1 hg.dis j i hjl hil h
            rw [Option.some.inj hx, Option.some.inj hi, hae] at this
            exact absurd (of_decide_eq_true hp) this
          · exact h
          · have := hb i a h hi
            rw [hae] at this
            simp at this
        rw [this]
    have k1 := loop_overZ (R := List Tree) (Z := List AV × Heap → Option (List Tree)) (B := fun n z p again => L13_2 n (l.map Arr.enc) ([.t (.bool true)], hP rate s v es) z p again) (s := (([.t (tI 0)], hP rate { s with busy := false } v es ++ [.box []]) : List AV × Heap)) l
      (fun i (_ : Unit) => (([.t (tI i)], hP rate { s with busy := false } v es ++ [.box []]) : List AV × Heap))
      (fun i _ x => if decide (x.e.ticket = s.now.ticket) = true then .done (i : Int) else .next ()) (fun _ => -1) (fun z (q : Int) => z ([.t (tI q)], hP rate { s with busy := false } v es ++ [.box []])) (fun _ _ => True) () rfl trivial (find_run0 _ l)
      (fun j u x hx hI => Ev.of fun n z again => ?_) (fun _ _ _ _ _ _ _ => trivial) (fun u hI => Ev.of fun n z again => ?_)
    · rw [hidx] at k1
      have hol := hs.out
      refine ⟨v', es', q1, (k1.and (q2.and (Ev.ge ((s.co.takeWhile fun a => decide (a.at_ = t)).length + 1)))).mono fun n h z => ?_⟩
      obtain ⟨h1, h2, h3⟩ := h
      have h2' := h2 (fun p24 => J13_26 n z p24) n (by simp only; omega)
      have hv : s.out[i]? = some s.out[i] := List.getElem?_eq_getElem (by omega)
      have hset : List.set (s.out.map encI) i [tI t] = (s.out.set i t).map encI := by rw [show ([tI t] : List Tree) = encI t from rfl, ← List.map_set]
      simp only [hP1, bxS, List.length_set] at h2'
      simp only [hP, bxS, List.cons_append, List.nil_append] at h1
      simp only [J13_28, J13_27, J13_3, hP, bxS, vI_mk, vB_mk, vS_mk, vL_mk, sVer_mk, sOff_mk, sLen_mk, oVer_mk, oEs_mk, cI_mk, cB_mk, cS_mk, cL_mk, cVer_mk, cOff_mk, cLen_mk, gI_zero, gI_succ, gB_zero, gB_succ, gS_zero, gS_succ, gL_zero, gL_succ, okI_zero, okI_succ, okB_zero, okB_succ, okS_zero, okS_succ, okL_zero, okL_succ, isIntT_int, isBoolT_bool, isStrT_str, isSlT_sl, intOf_int, boolOf_bool, strOf_str, slOf_sl, treeOf_t, srVer_sref, srOff_sref, srLen_sref, ver_row, esOf_row, cellOf_box, aI_mk, aB_mk, aS_mk, aL_mk, aggOf_agg, join_eq, List.getD_cons_zero, List.getD_cons_succ, decide_true, decide_false, cnd_true, cnd_false, true_and, and_true, false_and, and_false, Option.bind_some, Option.bind_none, List.length_cons, List.length_nil, List.length_map, List.getElem?_map, Option.map_some, Option.map_none, Int.toNat_natCast, reduceCtorEq, eq_self, if_true, if_false, Nat.zero_add, Nat.reduceAdd, Nat.reduceEqDiff, Int.natCast_nonneg, List.drop_zero, or_true, true_or, or_false, false_or, Bool.not_true, Bool.not_false, Bool.false_eq_true, decide_eq_true_eq, ge_iff_le, gt_iff_lt, h1, (show (i : Int) < (s.out.length : Int) by omega), hv, encI, Nat.le_refl, List.drop_succ_cons, List.drop_nil, List.cons_append, List.nil_append, h6]
      rw [hset]
      refine h2'.trans ?_
      simp only [J13_26, hP, bxS, vI_mk, vB_mk, vS_mk, vL_mk, sVer_mk, sOff_mk, sLen_mk, oVer_mk, oEs_mk, cI_mk, cB_mk, cS_mk, cL_mk, cVer_mk, cOff_mk, cLen_mk, gI_zero, gI_succ, gB_zero, gB_succ, gS_zero, gS_succ, gL_zero, gL_succ, okI_zero, okI_succ, okB_zero, okB_succ, okS_zero, okS_succ, okL_zero, okL_succ, isIntT_int, isBoolT_bool, isStrT_str, isSlT_sl, intOf_int, boolOf_bool, strOf_str, slOf_sl, treeOf_t, srVer_sref, srOff_sref, srLen_sref, ver_row, esOf_row, cellOf_box, aI_mk, aB_mk, aS_mk, aL_mk, aggOf_agg, join_eq, List.getD_cons_zero, List.getD_cons_succ, decide_true, decide_false, cnd_true, cnd_false, true_and, and_true, false_and, and_false, Option.bind_some, Option.bind_none, List.length_cons, List.length_nil, List.length_map, List.getElem?_map, Option.map_some, Option.map_none, Int.toNat_natCast, reduceCtorEq, eq_self, if_true, if_false, Nat.zero_add, Nat.reduceAdd, Nat.reduceEqDiff, Int.natCast_nonneg, List.drop_zero, or_true, true_or, or_false, false_or, Bool.not_true, Bool.not_false, Bool.false_eq_true, decide_eq_true_eq, ge_iff_le, gt_iff_lt, List.length_set]
    · have hj := lt_of_some hx
      simp only [L13_2, hP, bxS, vI_mk, vB_mk, vS_mk, vL_mk, sVer_mk, sOff_mk, sLen_mk, oVer_mk, oEs_mk, cI_mk, cB_mk, cS_mk, cL_mk, cVer_mk, cOff_mk, cLen_mk, gI_zero, gI_succ, gB_zero, gB_succ, gS_zero, gS_succ, gL_zero, gL_succ, okI_zero, okI_succ, okB_zero, okB_succ, okS_zero, okS_succ, okL_zero, okL_succ, isIntT_int, isBoolT_bool, isStrT_str, isSlT_sl, intOf_int, boolOf_bool, strOf_str, slOf_sl, treeOf_t, srVer_sref, srOff_sref, srLen_sref, ver_row, esOf_row, cellOf_box, aI_mk, aB_mk, aS_mk, aL_mk, aggOf_agg, join_eq, List.getD_cons_zero, List.getD_cons_succ, decide_true, decide_false, cnd_true, cnd_false, true_and, and_true, false_and, and_false, Option.bind_some, Option.bind_none, List.length_cons, List.length_nil, List.length_map, List.getElem?_map, Option.map_some, Option.map_none, Int.toNat_natCast, reduceCtorEq, eq_self, if_true, if_false, Nat.zero_add, Nat.reduceAdd, Nat.reduceEqDiff, Int.natCast_nonneg, List.drop_zero, or_true, true_or, or_false, false_or, Bool.not_true, Bool.not_false, Bool.false_eq_true, decide_eq_true_eq, ge_iff_le, gt_iff_lt, List.cons_append, List.nil_append, hx, Arr.enc, (show (j : Int) < (l.length : Int) by omega), w64_succ (show j < 4611686018427387904 by omega), beq_iff_eq]
      by_cases h : x.e.ticket = s.now.ticket
      · simp only [h, vI_mk, vB_mk, vS_mk, vL_mk, sVer_mk, sOff_mk, sLen_mk, oVer_mk, oEs_mk, cI_mk, cB_mk, cS_mk, cL_mk, cVer_mk, cOff_mk, cLen_mk, gI_zero, gI_succ, gB_zero, gB_succ, gS_zero, gS_succ, gL_zero, gL_succ, okI_zero, okI_succ, okB_zero, okB_succ, okS_zero, okS_succ, okL_zero, okL_succ, isIntT_int, isBoolT_bool, isStrT_str, isSlT_sl, intOf_int, boolOf_bool, strOf_str, slOf_sl, treeOf_t, srVer_sref, srOff_sref, srLen_sref, ver_row, esOf_row, cellOf_box, aI_mk, aB_mk, aS_mk, aL_mk, aggOf_agg, join_eq, List.getD_cons_zero, List.getD_cons_succ, decide_true, decide_false, cnd_true, cnd_false, true_and, and_true, false_and, and_false, Option.bind_some, Option.bind_none, List.length_cons, List.length_nil, List.length_map, List.getElem?_map, Option.map_some, Option.map_none, Int.toNat_natCast, reduceCtorEq, eq_self, if_true, if_false, Nat.zero_add, Nat.reduceAdd, Nat.reduceEqDiff, Int.natCast_nonneg, List.drop_zero, or_true, true_or, or_false, false_or, Bool.not_true, Bool.not_false, Bool.false_eq_true, decide_eq_true_eq, ge_iff_le, gt_iff_lt, Rd.go_done]
      · simp only [h, vI_mk, vB_mk, vS_mk, vL_mk, sVer_mk, sOff_mk, sLen_mk, oVer_mk, oEs_mk, cI_mk, cB_mk, cS_mk, cL_mk, cVer_mk, cOff_mk, cLen_mk, gI_zero, gI_succ, gB_zero, gB_succ, gS_zero, gS_succ, gL_zero, gL_succ, okI_zero, okI_succ, okB_zero, okB_succ, okS_zero, okS_succ, okL_zero, okL_succ, isIntT_int, isBoolT_bool, isStrT_str, isSlT_sl, intOf_int, boolOf_bool, strOf_str, slOf_sl, treeOf_t, srVer_sref, srOff_sref, srLen_sref, ver_row, esOf_row, cellOf_box, aI_mk, aB_mk, aS_mk, aL_mk, aggOf_agg, join_eq, List.getD_cons_zero, List.getD_cons_succ, decide_true, decide_false, cnd_true, cnd_false, true_and, and_true, false_and, and_false, Option.bind_some, Option.bind_none, List.length_cons, List.length_nil, List.length_map, List.getElem?_map, Option.map_some, Option.map_none, Int.toNat_natCast, reduceCtorEq, eq_self, if_true, if_false, Nat.zero_add, Nat.reduceAdd, Nat.reduceEqDiff, Int.natCast_nonneg, List.drop_zero, or_true, true_or, or_false, false_or, Bool.not_true, Bool.not_false, Bool.false_eq_true, decide_eq_true_eq, ge_iff_le, gt_iff_lt, Rd.go_next]
    · simp only [L13_2, hP, bxS, vI_mk, vB_mk, vS_mk, vL_mk, sVer_mk, sOff_mk, sLen_mk, oVer_mk, oEs_mk, cI_mk, cB_mk, cS_mk, cL_mk, cVer_mk, cOff_mk, cLen_mk, gI_zero, gI_succ, gB_zero, gB_succ, gS_zero, gS_succ, gL_zero, gL_succ, okI_zero, okI_succ, okB_zero, okB_succ, okS_zero, okS_succ, okL_zero, okL_succ, isIntT_int, isBoolT_bool, isStrT_str, isSlT_sl, intOf_int, boolOf_bool, strOf_str, slOf_sl, treeOf_t, srVer_sref, srOff_sref, srLen_sref, ver_row, esOf_row, cellOf_box, aI_mk, aB_mk, aS_mk, aL_mk, aggOf_agg, join_eq, List.getD_cons_zero, List.getD_cons_succ, decide_true, decide_false, cnd_true, cnd_false, true_and, and_true, false_and, and_false, Option.bind_some, Option.bind_none, List.length_cons, List.length_nil, List.length_map, List.getElem?_map, Option.map_some, Option.map_none, Int.toNat_natCast, reduceCtorEq, eq_self, if_true, if_false, Nat.zero_add, Nat.reduceAdd, Nat.reduceEqDiff, Int.natCast_nonneg, List.drop_zero, or_true, true_or, or_false, false_or, Bool.not_true, Bool.not_false, Bool.false_eq_true, decide_eq_true_eq, ge_iff_le, gt_iff_lt, List.cons_append, List.nil_append, Int.lt_irrefl]
def RelP (rate : Int) (s : QS) (c : List AV × Heap) : Prop := ∃ p v es, Sim s p ∧ Holds p.wait es ∧ c = ([], hP rate p v es)
theorem p0 (l : List Arr) (hg : GoodA l) {rate : Int} (hr : 1 ≤ rate ∧ rate ≤ 1000) (s : QS) (c : List AV × Heap) (hI : QInv l s ∧ SysQ l s) (hR : RelP rate s c) :
    (∃ s' c', roundQ l rate s = .next s' ∧ RelP rate s' c' ∧ Ev fun n => ∀ again, L13_30 n (l.map Arr.enc) c again = again c') ∨ (∃ q, roundQ l rate s = .done q ∧ Ev fun n => ∀ again, L13_30 n (l.map Arr.enc) c again = some [.sl 1 (q.map encI), tI 0]) := by
  obtain ⟨hq, hsys⟩ := hI
  obtain ⟨p, v, es, hsim, hh, rfl⟩ := hR
  have hmid := hsim.mid hq.mid
  have hol := hmid.out
  have hlen := hg.len
  cases ht : timeQ s with
  | none =>
    right
    have : s.busy = false ∧ s.co = [] := by
      unfold timeQ at ht
      split at ht <;> first | cases ht | skip
      rename_i hb hc
      exact ⟨hb, hc⟩
    obtain ⟨hb, hc⟩ := this
    refine ⟨s.out, by unfold roundQ; rw [ht], Ev.of fun n again => ?_⟩
    have e1 : List.take p.out.length (p.out.map encI) = p.out.map encI := List.take_of_length_le (by simp)
    have hpb : p.busy = false := by rw [hsim.busy, hb]
    have hpc : p.co = [] := by rw [hsim.co, hc]
    simp only [L13_30, J13_29, J13_1, hP, bxS, vI_mk, vB_mk, vS_mk, vL_mk, sVer_mk, sOff_mk, sLen_mk, oVer_mk, oEs_mk, cI_mk, cB_mk, cS_mk, cL_mk, cVer_mk, cOff_mk, cLen_mk, gI_zero, gI_succ, gB_zero, gB_succ, gS_zero, gS_succ, gL_zero, gL_succ, okI_zero, okI_succ, okB_zero, okB_succ, okS_zero, okS_succ, okL_zero, okL_succ, isIntT_int, isBoolT_bool, isStrT_str, isSlT_sl, intOf_int, boolOf_bool, strOf_str, slOf_sl, treeOf_t, srVer_sref, srOff_sref, srLen_sref, ver_row, esOf_row, cellOf_box, aI_mk, aB_mk, aS_mk, aL_mk, aggOf_agg, join_eq, List.getD_cons_zero, List.getD_cons_succ, decide_true, decide_false, cnd_true, cnd_false, true_and, and_true, false_and, and_false, Option.bind_some, Option.bind_none, List.length_cons, List.length_nil, List.length_map, List.getElem?_map, Option.map_some, Option.map_none, Int.toNat_natCast, reduceCtorEq, eq_self, if_true, if_false, Nat.zero_add, Nat.reduceAdd, Nat.reduceEqDiff, Int.natCast_nonneg, List.drop_zero, or_true, true_or, or_false, false_or, Bool.not_true, Bool.not_false, Bool.false_eq_true, decide_eq_true_eq, ge_iff_le, gt_iff_lt, hpb, hpc, List.map_nil, Int.natCast_zero, Int.lt_irrefl, e1]
    rw [hsim.out]
  | some t =>
    left
    have hm := hq.mu hg.len
    have htb : 0 ≤ t ∧ t ≤ 1099520016384 := by
      have h := timeQ_bd hg hq ht
      refine ⟨h.1, ?_⟩
      rcases h.2 with h | ⟨hb, h⟩
      · omega
      · have := hq.fin hb
        omega
    have hnow : p.busy = true → ∃ a ∈ l, a.e = p.now := fun hb => by
      have hb' : s.busy = true := by rw [← hsim.busy]; exact hb
      rw [hsim.now]
      exact hsys.mem s.now (by simp [allQ, hb'])
    obtain ⟨v', es', q1, q2⟩ := p1 l hg hr htb p hmid hnow v es hh ([.t (tI t), .t (.bool true)], hP rate p v es) rfl (decide (p.busy = true ∧ t = p.fin)) rfl
    refine ⟨stepQ l rate t s, ([], hP rate (stepP l rate t p) v' es'), by unfold roundQ; rw [ht], ⟨_, v', es', hsim.step hg hsys hq.mid rate t, q1, rfl⟩, q2.mono fun n h again => ?_⟩
    have h' := h again
    have htp : timeQ p = some t := by
      rw [← ht]
      unfold timeQ
      rw [hsim.busy, hsim.co, hsim.fin]
    cases hb : p.busy with
    | true =>
      simp only [hb, true_and] at h'
      have hbe : (p.fin == t) = decide (t = p.fin) := by
        by_cases h : t = p.fin
        · simp [h]
        · have : ¬ p.fin = t := fun hh => h hh.symm
          simp [h, this]
      cases hc : p.co with
      | nil =>
        have htf : t = p.fin := by unfold timeQ at htp; rw [hb, hc] at htp; exact (Option.some.inj htp).symm
        simp only [hP, bxS, hb, hc, List.map_nil] at h'
        rw [← htf] at h' hbe
        simp only [L13_30, J13_29, J13_1, hP, bxS, vI_mk, vB_mk, vS_mk, vL_mk, sVer_mk, sOff_mk, sLen_mk, oVer_mk, oEs_mk, cI_mk, cB_mk, cS_mk, cL_mk, cVer_mk, cOff_mk, cLen_mk, gI_zero, gI_succ, gB_zero, gB_succ, gS_zero, gS_succ, gL_zero, gL_succ, okI_zero, okI_succ, okB_zero, okB_succ, okS_zero, okS_succ, okL_zero, okL_succ, isIntT_int, isBoolT_bool, isStrT_str, isSlT_sl, intOf_int, boolOf_bool, strOf_str, slOf_sl, treeOf_t, srVer_sref, srOff_sref, srLen_sref, ver_row, esOf_row, cellOf_box, aI_mk, aB_mk, aS_mk, aL_mk, aggOf_agg, join_eq, List.getD_cons_zero, List.getD_cons_succ, decide_true, decide_false, cnd_true, cnd_false, true_and, and_true, false_and, and_false, Option.bind_some, Option.bind_none, List.length_cons, List.length_nil, List.length_map, List.getElem?_map, Option.map_some, Option.map_none, Int.toNat_natCast, reduceCtorEq, eq_self, if_true, if_false, Nat.zero_add, Nat.reduceAdd, Nat.reduceEqDiff, Int.natCast_nonneg, List.drop_zero, or_true, true_or, or_false, false_or, Bool.not_true, Bool.not_false, Bool.false_eq_true, decide_eq_true_eq, ge_iff_le, gt_iff_lt, hb, hc, List.map_nil, Int.natCast_zero, beq_self_eq_true, ← htf]
        simpa using h'
      | cons a r =>
        have hta : t = if a.at_ < p.fin then a.at_ else p.fin := by unfold timeQ at htp; rw [hb, hc] at htp; exact (Option.some.inj htp).symm
        have hl0 : (((r.length + 1 : Nat) : Int) == 0) = false := by simp; omega
        simp only [hP, bxS, hb, hc, List.map_cons, Arr.enc] at h'
        by_cases hf : a.at_ < p.fin
        · rw [if_pos hf] at hta
          have hle : ¬ p.fin ≤ a.at_ := by omega
          subst hta
          simp only [L13_30, J13_29, J13_1, hP, bxS, vI_mk, vB_mk, vS_mk, vL_mk, sVer_mk, sOff_mk, sLen_mk, oVer_mk, oEs_mk, cI_mk, cB_mk, cS_mk, cL_mk, cVer_mk, cOff_mk, cLen_mk, gI_zero, gI_succ, gB_zero, gB_succ, gS_zero, gS_succ, gL_zero, gL_succ, okI_zero, okI_succ, okB_zero, okB_succ, okS_zero, okS_succ, okL_zero, okL_succ, isIntT_int, isBoolT_bool, isStrT_str, isSlT_sl, intOf_int, boolOf_bool, strOf_str, slOf_sl, treeOf_t, srVer_sref, srOff_sref, srLen_sref, ver_row, esOf_row, cellOf_box, aI_mk, aB_mk, aS_mk, aL_mk, aggOf_agg, join_eq, List.getD_cons_zero, List.getD_cons_succ, decide_true, decide_false, cnd_true, cnd_false, true_and, and_true, false_and, and_false, Option.bind_some, Option.bind_none, List.length_cons, List.length_nil, List.length_map, List.getElem?_map, Option.map_some, Option.map_none, Int.toNat_natCast, reduceCtorEq, eq_self, if_true, if_false, Nat.zero_add, Nat.reduceAdd, Nat.reduceEqDiff, Int.natCast_nonneg, List.drop_zero, or_true, true_or, or_false, false_or, Bool.not_true, Bool.not_false, Bool.false_eq_true, decide_eq_true_eq, ge_iff_le, gt_iff_lt, hb, hc, List.map_cons, Arr.enc, List.getElem?_cons_zero, hl0, hle, (show (0 : Int) < ((r.length + 1 : Nat) : Int) by omega), hbe]
          exact h'
        · rw [if_neg hf] at hta
          have hle : p.fin ≤ a.at_ := by omega
          subst hta
          simp only [L13_30, J13_29, J13_1, hP, bxS, vI_mk, vB_mk, vS_mk, vL_mk, sVer_mk, sOff_mk, sLen_mk, oVer_mk, oEs_mk, cI_mk, cB_mk, cS_mk, cL_mk, cVer_mk, cOff_mk, cLen_mk, gI_zero, gI_succ, gB_zero, gB_succ, gS_zero, gS_succ, gL_zero, gL_succ, okI_zero, okI_succ, okB_zero, okB_succ, okS_zero, okS_succ, okL_zero, okL_succ, isIntT_int, isBoolT_bool, isStrT_str, isSlT_sl, intOf_int, boolOf_bool, strOf_str, slOf_sl, treeOf_t, srVer_sref, srOff_sref, srLen_sref, ver_row, esOf_row, cellOf_box, aI_mk, aB_mk, aS_mk, aL_mk, aggOf_agg, join_eq, List.getD_cons_zero, List.getD_cons_succ, decide_true, decide_false, cnd_true, cnd_false, true_and, and_true, false_and, and_false, Option.bind_some, Option.bind_none, List.length_cons, List.length_nil, List.length_map, List.getElem?_map, Option.map_some, Option.map_none, Int.toNat_natCast, reduceCtorEq, eq_self, if_true, if_false, Nat.zero_add, Nat.reduceAdd, Nat.reduceEqDiff, Int.natCast_nonneg, List.drop_zero, or_true, true_or, or_false, false_or, Bool.not_true, Bool.not_false, Bool.false_eq_true, decide_eq_true_eq, ge_iff_le, gt_iff_lt, hb, hc, List.map_cons, Arr.enc, List.getElem?_cons_zero, hl0, hle, hbe]
          simpa using h'
    | false =>
      simp only [hb, Bool.false_eq_true, false_and, decide_false] at h'
      cases hc : p.co with
      | nil => unfold timeQ at htp; rw [hb, hc] at htp; cases htp
      | cons a r =>
        have hta : t = a.at_ := by unfold timeQ at htp; rw [hb, hc] at htp; exact (Option.some.inj htp).symm
        simp only [hP, bxS, hb, hc, List.map_cons, Arr.enc] at h'
        subst hta
        simp only [L13_30, J13_29, J13_1, hP, bxS, vI_mk, vB_mk, vS_mk, vL_mk, sVer_mk, sOff_mk, sLen_mk, oVer_mk, oEs_mk, cI_mk, cB_mk, cS_mk, cL_mk, cVer_mk, cOff_mk, cLen_mk, gI_zero, gI_succ, gB_zero, gB_succ, gS_zero, gS_succ, gL_zero, gL_succ, okI_zero, okI_succ, okB_zero, okB_succ, okS_zero, okS_succ, okL_zero, okL_succ, isIntT_int, isBoolT_bool, isStrT_str, isSlT_sl, intOf_int, boolOf_bool, strOf_str, slOf_sl, treeOf_t, srVer_sref, srOff_sref, srLen_sref, ver_row, esOf_row, cellOf_box, aI_mk, aB_mk, aS_mk, aL_mk, aggOf_agg, join_eq, List.getD_cons_zero, List.getD_cons_succ, decide_true, decide_false, cnd_true, cnd_false, true_and, and_true, false_and, and_false, Option.bind_some, Option.bind_none, List.length_cons, List.length_nil, List.length_map, List.getElem?_map, Option.map_some, Option.map_none, Int.toNat_natCast, reduceCtorEq, eq_self, if_true, if_false, Nat.zero_add, Nat.reduceAdd, Nat.reduceEqDiff, Int.natCast_nonneg, List.drop_zero, or_true, true_or, or_false, false_or, Bool.not_true, Bool.not_false, Bool.false_eq_true, decide_eq_true_eq, ge_iff_le, gt_iff_lt, hb, hc, List.map_cons, Arr.enc, List.getElem?_cons_zero, (show (0 : Int) < ((r.length + 1 : Nat) : Int) by omega)]
        exact h'
theorem s13 (l : List Arr) (rate : Int) (hl : l.length ≤ 1000000) : Runs C 13 [.sl 5 (l.map Arr.enc), tI rate] [.sl 1 ((servR l rate).1.map encI), tI (servR l rate).2] := by
  refine Runs.of (fun n => e13 n _ _) ?_
  unfold servR
  by_cases hc : checkR l rate = 0
  · have hr : 1 ≤ rate ∧ rate ≤ 1000 := by
      unfold checkR at hc
      split at hc
      · cases hc
      · omega
    have hca : checkA l = 0 := by
      unfold checkR at hc
      split at hc
      · cases hc
      · exact hc
    have hg := (checkA_zero l).1 hca
    have hlen := hg.len
    have key := while_rel (R := List Tree) (B := fun n p again => L13_30 n (l.map Arr.enc) p again) (RelP rate) (roundQ l rate) (fun q => [Tree.sl 1 (q.map encI), tI 0]) (fun s => QInv l s ∧ SysQ l s) muQ
      (fun s c hI hR => p0 l hg hr s c hI hR) (fun s s' hI hn => by
        have := round_inv hg hr hI.1 hn
        refine ⟨⟨this.1, ?_⟩, this.2⟩
        unfold roundQ at hn
        split at hn
        · cases hn
        · cases hn
          exact hI.2.step rate _) (runQ l rate) (fun s _ => runQ_eq l rate s) (muQ (startQ l)) (startQ l) ([], hP rate (startQ l) 0 []) (Nat.le_refl _) ⟨QInv.start, SysQ.start hg⟩ ⟨startQ l, 0, [], Sim.refl _, ⟨[], rfl⟩, rfl⟩
    have h36 := s36 l rate hl
    rw [hc] at h36
    refine (h36.and ((s1000037 l.length hlen).and (key.and (Ev.ge (muQ (startQ l) + 1))))).mono fun n h => ?_
    obtain ⟨h1, h2, h3, h4⟩ := h
    have h3' := h3 n (by omega)
    have hrep : List.replicate l.length [tI (-1)] = (List.replicate l.length (-1 : Int)).map encI := by rw [List.map_replicate]; rfl
    simp only [hP, bxS, startQ, zeroE, List.map_nil, List.length_nil] at h3'
    simp only [h1, vI_mk, vB_mk, vS_mk, vL_mk, sVer_mk, sOff_mk, sLen_mk, oVer_mk, oEs_mk, cI_mk, cB_mk, cS_mk, cL_mk, cVer_mk, cOff_mk, cLen_mk, gI_zero, gI_succ, gB_zero, gB_succ, gS_zero, gS_succ, gL_zero, gL_succ, okI_zero, okI_succ, okB_zero, okB_succ, okS_zero, okS_succ, okL_zero, okL_succ, isIntT_int, isBoolT_bool, isStrT_str, isSlT_sl, intOf_int, boolOf_bool, strOf_str, slOf_sl, treeOf_t, srVer_sref, srOff_sref, srLen_sref, ver_row, esOf_row, cellOf_box, aI_mk, aB_mk, aS_mk, aL_mk, aggOf_agg, join_eq, List.getD_cons_zero, List.getD_cons_succ, decide_true, decide_false, cnd_true, cnd_false, true_and, and_true, false_and, and_false, Option.bind_some, Option.bind_none, List.length_cons, List.length_nil, List.length_map, List.getElem?_map, Option.map_some, Option.map_none, Int.toNat_natCast, reduceCtorEq, eq_self, if_true, if_false, Nat.zero_add, Nat.reduceAdd, Nat.reduceEqDiff, Int.natCast_nonneg, List.drop_zero, or_true, true_or, or_false, false_or, Bool.not_true, Bool.not_false, Bool.false_eq_true, decide_eq_true_eq, ge_iff_le, gt_iff_lt, bne_self_eq_false, h2, hrep, hc, ne_eq, not_true]
    exact h3'
  · have h36 := s36 l rate hl
    refine h36.mono fun n h => ?_
    have : (checkR l rate != 0) = true := by simp [hc]
    simp only [h, vI_mk, vB_mk, vS_mk, vL_mk, sVer_mk, sOff_mk, sLen_mk, oVer_mk, oEs_mk, cI_mk, cB_mk, cS_mk, cL_mk, cVer_mk, cOff_mk, cLen_mk, gI_zero, gI_succ, gB_zero, gB_succ, gS_zero, gS_succ, gL_zero, gL_succ, okI_zero, okI_succ, okB_zero, okB_succ, okS_zero, okS_succ, okL_zero, okL_succ, isIntT_int, isBoolT_bool, isStrT_str, isSlT_sl, intOf_int, boolOf_bool, strOf_str, slOf_sl, treeOf_t, srVer_sref, srOff_sref, srLen_sref, ver_row, esOf_row, cellOf_box, aI_mk, aB_mk, aS_mk, aL_mk, aggOf_agg, join_eq, List.getD_cons_zero, List.getD_cons_succ, decide_true, decide_false, cnd_true, cnd_false, true_and, and_true, false_and, and_false, Option.bind_some, Option.bind_none, List.length_cons, List.length_nil, List.length_map, List.getElem?_map, Option.map_some, Option.map_none, Int.toNat_natCast, reduceCtorEq, eq_self, if_true, if_false, Nat.zero_add, Nat.reduceAdd, Nat.reduceEqDiff, Int.natCast_nonneg, List.drop_zero, or_true, true_or, or_false, false_or, Bool.not_true, Bool.not_false, Bool.false_eq_true, decide_eq_true_eq, ge_iff_le, gt_iff_lt, this]
    simp [hc]
end Ab
