/- Queue: Serve of the reference. -/
import Derived.Test.YtblkfmemhpjbgaaQuH
set_option linter.unusedVariables false
set_option linter.unusedSimpArgs false
set_option maxHeartbeats 1000000
namespace Ab
open Go


theorem markQ_get {l : List Arr} {o : List Int} (ho : o.length = l.length) {k t : Int} {i : Nat} {a : Arr} {v : Int} (ha : l[i]? = some a) (hv : o[i]? = some v) : (markQ l k t o)[i]? = some (if a.e.ticket = k then t else v) := by
  unfold markQ
  rw [List.getElem?_zipWith, ha, hv]
theorem r4 (l : List Arr) (hl : l.length ≤ 64) (t : Int) (o : List Int) (ho : o.length = l.length) (x : Entry) (p5 p14 : List AV × Heap) (h1 : sVer p5 0 = l.length) (h2 : sOff p5 0 = 0) (h3 : sLen p5 0 = l.length) (h4 : vI p14 0 = t) :
    Ev fun n => ∀ z, loopIter (fun p again => L14_1 n (l.map Arr.enc) p5 p14 z p again) n ([.t (tI 0)], hpR l o x) = z ([.t (.bool false)], hpR l (markQ l x.ticket t o) x) := by
  have hml := markQ_len (k := x.ticket) (t := t) ho
  refine loop_overZ (R := List Tree) (Z := List AV × Heap → Option (List Tree)) (B := fun n z p again => L14_1 n (l.map Arr.enc) p5 p14 z p again) (r := ()) l
    (fun i (_ : Unit) => (([.t (tI i)], hpR l ((markQ l x.ticket t o).take i ++ o.drop i) x) : List AV × Heap)) (fun _ _ _ => .next ()) (fun _ => ())
    (fun z _ => z ([.t (.bool false)], hpR l (markQ l x.ticket t o) x)) (fun _ _ => True) () rfl trivial (runL_fold (fun _ _ => ()) (fun _ => ()) 0 _ ())
    (fun i s a ha hI => Ev.of fun n z again => ?_) (fun _ _ _ _ _ _ _ => trivial) (fun s hI => Ev.of fun n z again => ?_)
  · have hi := lt_of_some ha
    have hv : o[i]? = some o[i] := List.getElem?_eq_getElem (by omega)
    have hm := markQ_get (k := x.ticket) (t := t) ho ha hv
    have hd : o.drop i = o[i] :: o.drop (i + 1) := List.drop_eq_getElem_cons (by omega)
    have htl : ((markQ l x.ticket t o).take i).length = i := by simp; omega
    have ht : (markQ l x.ticket t o).take (i + 1) = (markQ l x.ticket t o).take i ++ [if a.e.ticket = x.ticket then t else o[i]] := by rw [List.take_add_one, hm]; rfl
    have hg : (((markQ l x.ticket t o).take i ++ o.drop i).map encI)[i]? = some [tI o[i]] := by
      rw [List.getElem?_map, List.getElem?_append_right (by omega), htl, Nat.sub_self, hd]
      rfl
    by_cases hk : a.e.ticket = x.ticket
    · have hbe : (a.e.ticket == x.ticket) = true := by simpa using hk
      have hset : List.set (((markQ l x.ticket t o).take i ++ o.drop i).map encI) i [tI t] = ((markQ l x.ticket t o).take (i + 1) ++ o.drop (i + 1)).map encI := by
        rw [show ([tI t] : List Tree) = encI t from rfl, ← List.map_set]
        congr 1
        rw [List.set_append_right _ _ (by omega), htl, Nat.sub_self, hd, ht, if_pos hk]
        simp only [List.set_cons_zero, List.append_assoc, List.cons_append, List.nil_append]
      simp only [List.getElem?_map] at hg
      simp only [L14_1, hpR, bxE, vI_mk, vB_mk, vS_mk, vL_mk, sVer_mk, sOff_mk, sLen_mk, oVer_mk, oEs_mk, cI_mk, cB_mk, cS_mk, cL_mk, cVer_mk, cOff_mk, cLen_mk, gI_zero, gI_succ, gB_zero, gB_succ, gS_zero, gS_succ, gL_zero, gL_succ, okI_zero, okI_succ, okB_zero, okB_succ, okS_zero, okS_succ, okL_zero, okL_succ, isIntT_int, isBoolT_bool, isStrT_str, isSlT_sl, intOf_int, boolOf_bool, strOf_str, slOf_sl, treeOf_t, srVer_sref, srOff_sref, srLen_sref, ver_row, esOf_row, cellOf_box, aI_mk, aB_mk, aS_mk, aL_mk, aggOf_agg, join_eq, List.getD_cons_zero, List.getD_cons_succ, decide_true, decide_false, cnd_true, cnd_false, true_and, and_true, false_and, and_false, Option.bind_some, Option.bind_none, List.length_cons, List.length_nil, List.length_map, List.getElem?_map, Option.map_some, Option.map_none, Int.toNat_natCast, reduceCtorEq, eq_self, if_true, if_false, Nat.zero_add, Nat.reduceAdd, Nat.reduceEqDiff, Int.natCast_nonneg, List.drop_zero, or_true, true_or, or_false, false_or, Bool.not_true, Bool.not_false, Bool.false_eq_true, decide_eq_true_eq, ge_iff_le, gt_iff_lt, h1, h2, h3, h4, ha, Arr.enc, (show (i : Int) < (l.length : Int) by omega), hbe, hg, Nat.le_refl, List.drop_succ_cons, List.append_nil, List.drop_nil, hset, w64_succ (show i < 4611686018427387904 by omega), Rd.go_next]
    · have hbe : (a.e.ticket == x.ticket) = false := by simpa using hk
      have hset : (markQ l x.ticket t o).take i ++ o.drop i = (markQ l x.ticket t o).take (i + 1) ++ o.drop (i + 1) := by
        rw [hd, ht, if_neg hk]
        simp
      simp only [L14_1, hpR, bxE, vI_mk, vB_mk, vS_mk, vL_mk, sVer_mk, sOff_mk, sLen_mk, oVer_mk, oEs_mk, cI_mk, cB_mk, cS_mk, cL_mk, cVer_mk, cOff_mk, cLen_mk, gI_zero, gI_succ, gB_zero, gB_succ, gS_zero, gS_succ, gL_zero, gL_succ, okI_zero, okI_succ, okB_zero, okB_succ, okS_zero, okS_succ, okL_zero, okL_succ, isIntT_int, isBoolT_bool, isStrT_str, isSlT_sl, intOf_int, boolOf_bool, strOf_str, slOf_sl, treeOf_t, srVer_sref, srOff_sref, srLen_sref, ver_row, esOf_row, cellOf_box, aI_mk, aB_mk, aS_mk, aL_mk, aggOf_agg, join_eq, List.getD_cons_zero, List.getD_cons_succ, decide_true, decide_false, cnd_true, cnd_false, true_and, and_true, false_and, and_false, Option.bind_some, Option.bind_none, List.length_cons, List.length_nil, List.length_map, List.getElem?_map, Option.map_some, Option.map_none, Int.toNat_natCast, reduceCtorEq, eq_self, if_true, if_false, Nat.zero_add, Nat.reduceAdd, Nat.reduceEqDiff, Int.natCast_nonneg, List.drop_zero, or_true, true_or, or_false, false_or, Bool.not_true, Bool.not_false, Bool.false_eq_true, decide_eq_true_eq, ge_iff_le, gt_iff_lt, h1, h2, h3, h4, ha, Arr.enc, (show (i : Int) < (l.length : Int) by omega), hbe, hset, w64_succ (show i < 4611686018427387904 by omega), Rd.go_next]
  · have e1 : (markQ l x.ticket t o).take l.length ++ o.drop l.length = markQ l x.ticket t o := by
      rw [List.take_of_length_le (by omega), List.drop_eq_nil_of_le (by omega), List.append_nil]
    rw [e1]
    simp only [L14_1, hpR, bxE, vI_mk, vB_mk, vS_mk, vL_mk, sVer_mk, sOff_mk, sLen_mk, oVer_mk, oEs_mk, cI_mk, cB_mk, cS_mk, cL_mk, cVer_mk, cOff_mk, cLen_mk, gI_zero, gI_succ, gB_zero, gB_succ, gS_zero, gS_succ, gL_zero, gL_succ, okI_zero, okI_succ, okB_zero, okB_succ, okS_zero, okS_succ, okL_zero, okL_succ, isIntT_int, isBoolT_bool, isStrT_str, isSlT_sl, intOf_int, boolOf_bool, strOf_str, slOf_sl, treeOf_t, srVer_sref, srOff_sref, srLen_sref, ver_row, esOf_row, cellOf_box, aI_mk, aB_mk, aS_mk, aL_mk, aggOf_agg, join_eq, List.getD_cons_zero, List.getD_cons_succ, decide_true, decide_false, cnd_true, cnd_false, true_and, and_true, false_and, and_false, Option.bind_some, Option.bind_none, List.length_cons, List.length_nil, List.length_map, List.getElem?_map, Option.map_some, Option.map_none, Int.toNat_natCast, reduceCtorEq, eq_self, if_true, if_false, Nat.zero_add, Nat.reduceAdd, Nat.reduceEqDiff, Int.natCast_nonneg, List.drop_zero, or_true, true_or, or_false, false_or, Bool.not_true, Bool.not_false, Bool.false_eq_true, decide_eq_true_eq, ge_iff_le, gt_iff_lt, Int.lt_irrefl]
theorem r5 (l : List Arr) (hg : GoodA l) {rate : Int} (hr : 1 ≤ rate ∧ rate ≤ 1000) {s : QS} (hs : QInv l s) {t : Int} (ht : timeQ s = some t) (p7 p5 p14 : List AV × Heap) (h0 : vB p7 0 = s.busy) (h1 : vI p7 2 = ((l.length - s.co.length : Nat) : Int)) (h2 : vI p14 0 = t) (h3 : vI p7 3 = s.fin) (h4 : vL p7 1 = s.wait.map Entry.enc) (h5 : sVer p5 0 = l.length) (h6 : sOff p5 0 = 0) (h7 : sLen p5 0 = l.length) (h8 : p14.2 = hpR l s.out s.now) :
    Ev fun n => ∀ z, J14_9 n (l.map Arr.enc) rate z p7 p5 p14 = z (stR l (stepQ l rate t s)) := by
  have hm := hs.mu hg.len
  have htb : 0 ≤ t ∧ t ≤ 1099520016384 := by
    have h := timeQ_bd hg hs ht
    refine ⟨h.1, ?_⟩
    rcases h.2 with h | ⟨hb, h⟩
    · omega
    · have := hs.fin hb
      omega
  have hoV : oVer p14 0 = l.length := by unfold oVer; rw [h8]; rfl
  have hoE : oEs p14 0 = s.out.map encI := by unfold oEs; rw [h8]; rfl
  have hc0 : cI p14 1 0 = s.now.ticket := by unfold cI; rw [h8]; rfl
  have hc1 : cI p14 1 1 = s.now.prio := by unfold cI; rw [h8]; rfl
  have hc2 : cI p14 1 2 = s.now.exp := by unfold cI; rw [h8]; rfl
  have hc3 : cI p14 1 3 = s.now.size := by unfold cI; rw [h8]; rfl
  unfold stepQ
  have hmid := hs.mid.end t
  by_cases hd : s.busy = true ∧ t = s.fin
  · have hend : endQ l t s = { s with busy := false, out := markQ l s.now.ticket t s.out } := by unfold endQ; rw [if_pos hd]
    rw [hend] at hmid ⊢
    have k1 := r3 l hg hr htb _ hmid p7 p14 ([.t (.bool false)], hpR l (markQ l s.now.ticket t s.out) s.now) h1 h2 h3 h4 rfl rfl
    have k2 := r4 l hg.len t s.out hs.out s.now p5 p14 h5 h6 h7 h2
    refine (k1.and k2).mono fun n h z => ?_
    obtain ⟨m1, m2⟩ := h
    simp only [hpR, bxE] at m2
    have hbe : (t == s.fin) = true := by simpa using hd.2
    simp only [J14_9, J14_8, vI_mk, vB_mk, vS_mk, vL_mk, sVer_mk, sOff_mk, sLen_mk, oVer_mk, oEs_mk, cI_mk, cB_mk, cS_mk, cL_mk, cVer_mk, cOff_mk, cLen_mk, gI_zero, gI_succ, gB_zero, gB_succ, gS_zero, gS_succ, gL_zero, gL_succ, okI_zero, okI_succ, okB_zero, okB_succ, okS_zero, okS_succ, okL_zero, okL_succ, isIntT_int, isBoolT_bool, isStrT_str, isSlT_sl, intOf_int, boolOf_bool, strOf_str, slOf_sl, treeOf_t, srVer_sref, srOff_sref, srLen_sref, ver_row, esOf_row, cellOf_box, aI_mk, aB_mk, aS_mk, aL_mk, aggOf_agg, join_eq, List.getD_cons_zero, List.getD_cons_succ, decide_true, decide_false, cnd_true, cnd_false, true_and, and_true, false_and, and_false, Option.bind_some, Option.bind_none, List.length_cons, List.length_nil, List.length_map, List.getElem?_map, Option.map_some, Option.map_none, Int.toNat_natCast, reduceCtorEq, eq_self, if_true, if_false, Nat.zero_add, Nat.reduceAdd, Nat.reduceEqDiff, Int.natCast_nonneg, List.drop_zero, or_true, true_or, or_false, false_or, Bool.not_true, Bool.not_false, Bool.false_eq_true, decide_eq_true_eq, ge_iff_le, gt_iff_lt, h0, hd.1, h2, h3, hbe, hoV, hoE, hc0, hc1, hc2, hc3, m2]
    exact m1 z
  · have hend : endQ l t s = s := by unfold endQ; rw [if_neg hd]
    rw [hend] at hmid ⊢
    have k1 := r3 l hg hr htb s hmid p7 p14 ([.t (.bool s.busy)], hpR l s.out s.now) h1 h2 h3 h4 rfl rfl
    refine k1.mono fun n m1 z => ?_
    have m1' := m1 z
    simp only [hpR, bxE] at m1'
    cases hb : s.busy with
    | true =>
      have hbe : (t == s.fin) = false := by
        have : ¬ t = s.fin := fun h => hd ⟨hb, h⟩
        simpa using this
      rw [hb] at m1' h0
      simp only [J14_9, J14_8, vI_mk, vB_mk, vS_mk, vL_mk, sVer_mk, sOff_mk, sLen_mk, oVer_mk, oEs_mk, cI_mk, cB_mk, cS_mk, cL_mk, cVer_mk, cOff_mk, cLen_mk, gI_zero, gI_succ, gB_zero, gB_succ, gS_zero, gS_succ, gL_zero, gL_succ, okI_zero, okI_succ, okB_zero, okB_succ, okS_zero, okS_succ, okL_zero, okL_succ, isIntT_int, isBoolT_bool, isStrT_str, isSlT_sl, intOf_int, boolOf_bool, strOf_str, slOf_sl, treeOf_t, srVer_sref, srOff_sref, srLen_sref, ver_row, esOf_row, cellOf_box, aI_mk, aB_mk, aS_mk, aL_mk, aggOf_agg, join_eq, List.getD_cons_zero, List.getD_cons_succ, decide_true, decide_false, cnd_true, cnd_false, true_and, and_true, false_and, and_false, Option.bind_some, Option.bind_none, List.length_cons, List.length_nil, List.length_map, List.getElem?_map, Option.map_some, Option.map_none, Int.toNat_natCast, reduceCtorEq, eq_self, if_true, if_false, Nat.zero_add, Nat.reduceAdd, Nat.reduceEqDiff, Int.natCast_nonneg, List.drop_zero, or_true, true_or, or_false, false_or, Bool.not_true, Bool.not_false, Bool.false_eq_true, decide_eq_true_eq, ge_iff_le, gt_iff_lt, h0, h2, h3, hbe, hoV, hoE, hc0, hc1, hc2, hc3]
      exact m1'
    | false =>
      rw [hb] at m1' h0
      simp only [J14_9, J14_8, vI_mk, vB_mk, vS_mk, vL_mk, sVer_mk, sOff_mk, sLen_mk, oVer_mk, oEs_mk, cI_mk, cB_mk, cS_mk, cL_mk, cVer_mk, cOff_mk, cLen_mk, gI_zero, gI_succ, gB_zero, gB_succ, gS_zero, gS_succ, gL_zero, gL_succ, okI_zero, okI_succ, okB_zero, okB_succ, okS_zero, okS_succ, okL_zero, okL_succ, isIntT_int, isBoolT_bool, isStrT_str, isSlT_sl, intOf_int, boolOf_bool, strOf_str, slOf_sl, treeOf_t, srVer_sref, srOff_sref, srLen_sref, ver_row, esOf_row, cellOf_box, aI_mk, aB_mk, aS_mk, aL_mk, aggOf_agg, join_eq, List.getD_cons_zero, List.getD_cons_succ, decide_true, decide_false, cnd_true, cnd_false, true_and, and_true, false_and, and_false, Option.bind_some, Option.bind_none, List.length_cons, List.length_nil, List.length_map, List.getElem?_map, Option.map_some, Option.map_none, Int.toNat_natCast, reduceCtorEq, eq_self, if_true, if_false, Nat.zero_add, Nat.reduceAdd, Nat.reduceEqDiff, Int.natCast_nonneg, List.drop_zero, or_true, true_or, or_false, false_or, Bool.not_true, Bool.not_false, Bool.false_eq_true, decide_eq_true_eq, ge_iff_le, gt_iff_lt, h0, h2, h3, hoV, hoE, hc0, hc1, hc2, hc3]
      exact m1'
theorem r6 (l : List Arr) (hg : GoodA l) {rate : Int} (hr : 1 ≤ rate ∧ rate ≤ 1000) {s : QS} (hs : QInv l s) (p5 : List AV × Heap) (h5 : sVer p5 0 = l.length) (h6 : sOff p5 0 = 0) (h7 : sLen p5 0 = l.length) :
    Ev fun n => ∀ again, L14_12 n (l.map Arr.enc) rate p5 (stR l s) again = (roundQ l rate s).go (fun s' => again (stR l s')) (fun q => some [.sl 1 (q.map encI), tI 0]) := by
  have hwl := hs.wl
  have hcol : s.co.length ≤ l.length := by omega
  have hlen := hg.len
  cases ht : timeQ s with
  | none =>
    have : s.busy = false ∧ s.co = [] := by
      unfold timeQ at ht
      split at ht <;> first | cases ht | skip
      rename_i hb hc
      exact ⟨hb, hc⟩
    obtain ⟨hb, hc⟩ := this
    refine Ev.of fun n again => ?_
    unfold roundQ
    rw [ht]
    have e1 : List.take l.length (s.out.map encI) = s.out.map encI := List.take_of_length_le (by rw [List.length_map, hs.out]; omega)
    simp only [L14_12, J14_11, stR, hpR, bxE, hb, hc, vI_mk, vB_mk, vS_mk, vL_mk, sVer_mk, sOff_mk, sLen_mk, oVer_mk, oEs_mk, cI_mk, cB_mk, cS_mk, cL_mk, cVer_mk, cOff_mk, cLen_mk, gI_zero, gI_succ, gB_zero, gB_succ, gS_zero, gS_succ, gL_zero, gL_succ, okI_zero, okI_succ, okB_zero, okB_succ, okS_zero, okS_succ, okL_zero, okL_succ, isIntT_int, isBoolT_bool, isStrT_str, isSlT_sl, intOf_int, boolOf_bool, strOf_str, slOf_sl, treeOf_t, srVer_sref, srOff_sref, srLen_sref, ver_row, esOf_row, cellOf_box, aI_mk, aB_mk, aS_mk, aL_mk, aggOf_agg, join_eq, List.getD_cons_zero, List.getD_cons_succ, decide_true, decide_false, cnd_true, cnd_false, true_and, and_true, false_and, and_false, Option.bind_some, Option.bind_none, List.length_cons, List.length_nil, List.length_map, List.getElem?_map, Option.map_some, Option.map_none, Int.toNat_natCast, reduceCtorEq, eq_self, if_true, if_false, Nat.zero_add, Nat.reduceAdd, Nat.reduceEqDiff, Int.natCast_nonneg, List.drop_zero, or_true, true_or, or_false, false_or, Bool.not_true, Bool.not_false, Bool.false_eq_true, decide_eq_true_eq, ge_iff_le, gt_iff_lt, Nat.sub_zero, Int.lt_irrefl, h5, h6, h7, e1, Rd.go_done]
  | some t =>
    have hgo : ∀ again : List AV × Heap → Option (List Tree), (roundQ l rate s).go (fun s' => again (stR l s')) (fun q => some [.sl 1 (q.map encI), tI 0]) = again (stR l (stepQ l rate t s)) := by
      intro again
      unfold roundQ
      rw [ht]
      rfl
    have k := r5 l hg hr hs ht (stR l s) p5 ([.t (tI t)], hpR l s.out s.now) rfl rfl rfl rfl rfl h5 h6 h7 rfl
    refine k.mono fun n m again => ?_
    rw [hgo]
    have m' := m again
    cases hc : s.co with
    | nil =>
      have hbt : s.busy = true ∧ t = s.fin := by
        unfold timeQ at ht
        rw [hc] at ht
        cases hb : s.busy with
        | true => rw [hb] at ht; cases ht; exact ⟨rfl, rfl⟩
        | false => rw [hb] at ht; cases ht
      obtain ⟨hb, hbt⟩ := hbt
      simp only [stR, hc, hb, hpR, bxE, List.length_nil, Nat.sub_zero] at m'
      rw [← hbt] at m'
      simp only [L14_12, J14_11, J14_10, stR, hpR, bxE, hb, hc, vI_mk, vB_mk, vS_mk, vL_mk, sVer_mk, sOff_mk, sLen_mk, oVer_mk, oEs_mk, cI_mk, cB_mk, cS_mk, cL_mk, cVer_mk, cOff_mk, cLen_mk, gI_zero, gI_succ, gB_zero, gB_succ, gS_zero, gS_succ, gL_zero, gL_succ, okI_zero, okI_succ, okB_zero, okB_succ, okS_zero, okS_succ, okL_zero, okL_succ, isIntT_int, isBoolT_bool, isStrT_str, isSlT_sl, intOf_int, boolOf_bool, strOf_str, slOf_sl, treeOf_t, srVer_sref, srOff_sref, srLen_sref, ver_row, esOf_row, cellOf_box, aI_mk, aB_mk, aS_mk, aL_mk, aggOf_agg, join_eq, List.getD_cons_zero, List.getD_cons_succ, decide_true, decide_false, cnd_true, cnd_false, true_and, and_true, false_and, and_false, Option.bind_some, Option.bind_none, List.length_cons, List.length_nil, List.length_map, List.getElem?_map, Option.map_some, Option.map_none, Int.toNat_natCast, reduceCtorEq, eq_self, if_true, if_false, Nat.zero_add, Nat.reduceAdd, Nat.reduceEqDiff, Int.natCast_nonneg, List.drop_zero, or_true, true_or, or_false, false_or, Bool.not_true, Bool.not_false, Bool.false_eq_true, decide_eq_true_eq, ge_iff_le, gt_iff_lt, Nat.sub_zero, Int.lt_irrefl]
      rw [← hbt]
      exact m'
    | cons a r =>
      have hk : l[l.length - s.co.length]? = some a := by
        have h := hs.co
        have h2 := congrArg (fun m => m[0]?) h
        simp only [hc, List.getElem?_cons_zero, List.getElem?_drop, Nat.add_zero] at h2
        rw [hc]
        exact h2.symm
      have hlt : l.length - s.co.length < l.length := lt_of_some hk
      have hlt' : ((l.length - s.co.length : Nat) : Int) < (l.length : Int) := by omega
      cases hb : s.busy with
      | false =>
        have hta : t = a.at_ := by
          unfold timeQ at ht
          rw [hc, hb] at ht
          cases ht; rfl
        simp only [stR, hb, hpR, bxE] at m'
        rw [hta] at m'
        simp only [L14_12, J14_11, J14_10, stR, hpR, bxE, hb, vI_mk, vB_mk, vS_mk, vL_mk, sVer_mk, sOff_mk, sLen_mk, oVer_mk, oEs_mk, cI_mk, cB_mk, cS_mk, cL_mk, cVer_mk, cOff_mk, cLen_mk, gI_zero, gI_succ, gB_zero, gB_succ, gS_zero, gS_succ, gL_zero, gL_succ, okI_zero, okI_succ, okB_zero, okB_succ, okS_zero, okS_succ, okL_zero, okL_succ, isIntT_int, isBoolT_bool, isStrT_str, isSlT_sl, intOf_int, boolOf_bool, strOf_str, slOf_sl, treeOf_t, srVer_sref, srOff_sref, srLen_sref, ver_row, esOf_row, cellOf_box, aI_mk, aB_mk, aS_mk, aL_mk, aggOf_agg, join_eq, List.getD_cons_zero, List.getD_cons_succ, decide_true, decide_false, cnd_true, cnd_false, true_and, and_true, false_and, and_false, Option.bind_some, Option.bind_none, List.length_cons, List.length_nil, List.length_map, List.getElem?_map, Option.map_some, Option.map_none, Int.toNat_natCast, reduceCtorEq, eq_self, if_true, if_false, Nat.zero_add, Nat.reduceAdd, Nat.reduceEqDiff, Int.natCast_nonneg, List.drop_zero, or_true, true_or, or_false, false_or, Bool.not_true, Bool.not_false, Bool.false_eq_true, decide_eq_true_eq, ge_iff_le, gt_iff_lt, hlt', hk, Arr.enc]
        rw [hta]
        exact m'
      | true =>
        have hta : t = if a.at_ < s.fin then a.at_ else s.fin := by
          unfold timeQ at ht
          rw [hc, hb] at ht
          cases ht; rfl
        simp only [stR, hb, hpR, bxE] at m'
        by_cases hf : a.at_ < s.fin
        · rw [if_pos hf] at hta
          rw [hta] at m'
          simp only [L14_12, J14_11, J14_10, stR, hpR, bxE, hb, vI_mk, vB_mk, vS_mk, vL_mk, sVer_mk, sOff_mk, sLen_mk, oVer_mk, oEs_mk, cI_mk, cB_mk, cS_mk, cL_mk, cVer_mk, cOff_mk, cLen_mk, gI_zero, gI_succ, gB_zero, gB_succ, gS_zero, gS_succ, gL_zero, gL_succ, okI_zero, okI_succ, okB_zero, okB_succ, okS_zero, okS_succ, okL_zero, okL_succ, isIntT_int, isBoolT_bool, isStrT_str, isSlT_sl, intOf_int, boolOf_bool, strOf_str, slOf_sl, treeOf_t, srVer_sref, srOff_sref, srLen_sref, ver_row, esOf_row, cellOf_box, aI_mk, aB_mk, aS_mk, aL_mk, aggOf_agg, join_eq, List.getD_cons_zero, List.getD_cons_succ, decide_true, decide_false, cnd_true, cnd_false, true_and, and_true, false_and, and_false, Option.bind_some, Option.bind_none, List.length_cons, List.length_nil, List.length_map, List.getElem?_map, Option.map_some, Option.map_none, Int.toNat_natCast, reduceCtorEq, eq_self, if_true, if_false, Nat.zero_add, Nat.reduceAdd, Nat.reduceEqDiff, Int.natCast_nonneg, List.drop_zero, or_true, true_or, or_false, false_or, Bool.not_true, Bool.not_false, Bool.false_eq_true, decide_eq_true_eq, ge_iff_le, gt_iff_lt, hlt', hk, Arr.enc, hf]
          rw [hta]
          exact m'
        · rw [if_neg hf] at hta
          rw [hta] at m'
          simp only [L14_12, J14_11, J14_10, stR, hpR, bxE, hb, vI_mk, vB_mk, vS_mk, vL_mk, sVer_mk, sOff_mk, sLen_mk, oVer_mk, oEs_mk, cI_mk, cB_mk, cS_mk, cL_mk, cVer_mk, cOff_mk, cLen_mk, gI_zero, gI_succ, gB_zero, gB_succ, gS_zero, gS_succ, gL_zero, gL_succ, okI_zero, okI_succ, okB_zero, okB_succ, okS_zero, okS_succ, okL_zero, okL_succ, isIntT_int, isBoolT_bool, isStrT_str, isSlT_sl, intOf_int, boolOf_bool, strOf_str, slOf_sl, treeOf_t, srVer_sref, srOff_sref, srLen_sref, ver_row, esOf_row, cellOf_box, aI_mk, aB_mk, aS_mk, aL_mk, aggOf_agg, join_eq, List.getD_cons_zero, List.getD_cons_succ, decide_true, decide_false, cnd_true, cnd_false, true_and, and_true, false_and, and_false, Option.bind_some, Option.bind_none, List.length_cons, List.length_nil, List.length_map, List.getElem?_map, Option.map_some, Option.map_none, Int.toNat_natCast, reduceCtorEq, eq_self, if_true, if_false, Nat.zero_add, Nat.reduceAdd, Nat.reduceEqDiff, Int.natCast_nonneg, List.drop_zero, or_true, true_or, or_false, false_or, Bool.not_true, Bool.not_false, Bool.false_eq_true, decide_eq_true_eq, ge_iff_le, gt_iff_lt, hlt', hk, Arr.enc, hf]
          rw [hta]
          exact m'
def servR (l : List Arr) (rate : Int) : List Int × Int := if checkR l rate ≠ 0 then ([], checkR l rate) else (serveQ l rate, 0)
theorem round_inv {l : List Arr} (hg : GoodA l) {rate : Int} (hr : 1 ≤ rate ∧ rate ≤ 1000) {s s' : QS} (hs : QInv l s) (hn : roundQ l rate s = .next s') : QInv l s' ∧ muQ s' < muQ s := by
  refine ⟨?_, round_mu hn⟩
  unfold roundQ at hn
  split at hn
  · cases hn
  · rename_i t ht
    cases hn
    exact hs.step hg hr ht
theorem s14w (l : List Arr) (hg : GoodA l) {rate : Int} (hr : 1 ≤ rate ∧ rate ≤ 1000) (p5 : List AV × Heap) (h5 : sVer p5 0 = l.length) (h6 : sOff p5 0 = 0) (h7 : sLen p5 0 = l.length) :
    Ev fun n => loopIter (fun p again => L14_12 n (l.map Arr.enc) rate p5 p again) n (stR l (startQ l)) = some [.sl 1 ((serveQ l rate).map encI), tI 0] := by
  have hst : ∀ s, QInv l s → Ev fun n => ∀ again, L14_12 n (l.map Arr.enc) rate p5 (stR l s) again = (roundQ l rate s).go (fun s' => again (stR l s')) (fun q => some ((fun (q : List Int) => [Tree.sl 1 (q.map encI), tI 0]) q)) := fun s hs => r6 l hg hr hs p5 h5 h6 h7
  exact while_overQ (R := List Tree) (B := fun n p again => L14_12 n (l.map Arr.enc) rate p5 p again) (s := stR l (startQ l)) (r := serveQ l rate) (fun q => [Tree.sl 1 (q.map encI), tI 0]) (stR l) (roundQ l rate) (QInv l) muQ (runQ l rate) (startQ l) rfl QInv.start rfl hst
    (fun s s' hs hn => round_inv hg hr hs hn) (fun s hs => runQ_eq l rate s)
theorem s14 (l : List Arr) (rate : Int) (hl : l.length ≤ 1000000) : Runs C 14 [.sl 5 (l.map Arr.enc), tI rate] [.sl 1 ((servR l rate).1.map encI), tI (servR l rate).2] := by
  refine Runs.of (fun n => e14 n _ _) ?_
  unfold servR checkR
  by_cases r1 : rate < 1
  · refine Ev.of fun n => ?_
    simp [r1, cnd_eq, J14_14, join_eq, vB, boolOf, treeOf]
  by_cases r2 : 1000 < rate
  · refine Ev.of fun n => ?_
    simp [r1, r2, cnd_eq, J14_14, join_eq, vB, boolOf, treeOf]
  rw [if_neg (show ¬ (rate < 1 ∨ 1000 < rate) by omega)]
  by_cases hc : checkA l = 0
  · have hg := (checkA_zero l).1 hc
    have hlen := hg.len
    refine Ev.rw (T' := ?TT) (s40 l hl) (fun k h => ?g1) ?g2
    case g1 =>
      simp only [J14_14, r1, r2, vI_mk, vB_mk, vS_mk, vL_mk, sVer_mk, sOff_mk, sLen_mk, oVer_mk, oEs_mk, cI_mk, cB_mk, cS_mk, cL_mk, cVer_mk, cOff_mk, cLen_mk, gI_zero, gI_succ, gB_zero, gB_succ, gS_zero, gS_succ, gL_zero, gL_succ, okI_zero, okI_succ, okB_zero, okB_succ, okS_zero, okS_succ, okL_zero, okL_succ, isIntT_int, isBoolT_bool, isStrT_str, isSlT_sl, intOf_int, boolOf_bool, strOf_str, slOf_sl, treeOf_t, srVer_sref, srOff_sref, srLen_sref, ver_row, esOf_row, cellOf_box, aI_mk, aB_mk, aS_mk, aL_mk, aggOf_agg, join_eq, List.getD_cons_zero, List.getD_cons_succ, decide_true, decide_false, cnd_true, cnd_false, true_and, and_true, false_and, and_false, Option.bind_some, Option.bind_none, List.length_cons, List.length_nil, List.length_map, List.getElem?_map, Option.map_some, Option.map_none, Int.toNat_natCast, reduceCtorEq, eq_self, if_true, if_false, Nat.zero_add, Nat.reduceAdd, Nat.reduceEqDiff, Int.natCast_nonneg, List.drop_zero, or_true, true_or, or_false, false_or, Bool.not_true, Bool.not_false, Bool.false_eq_true, decide_eq_true_eq, ge_iff_le, gt_iff_lt, h, hc, bne_self_eq_false]
      rfl
    case g2 =>
      simp only [hc, ne_eq, not_true, if_false]
      have key := s14w l hg (rate := rate) (by omega) ([.sref 0 l.length 0 l.length, .t (tI l.length)], [.row false l.length 1 ((List.replicate l.length (-1)).map encI)]) rfl rfl rfl
      refine loop_overQ (fun (q : List Int) => [Tree.sl 1 (q.map encI), tI 0]) l (fun i (_ : Unit) => (([.sref 0 i 0 i, .t (tI i)], [.row false i 1 ((List.replicate i (-1)).map encI)]) : List AV × Heap)) (fun _ _ _ => .next ()) (fun _ => serveQ l rate) (fun _ _ => True) () rfl trivial (runL_fold (fun _ _ => ()) (fun _ => serveQ l rate) 0 _ ())
        (fun i s a ha hI => Ev.of fun n again => ?_) (fun _ _ _ _ _ _ _ => trivial) (fun s hI => ?_)
      · have hi := lt_of_some ha
        have e1 : List.take i ((List.replicate i (-1 : Int)).map encI) = (List.replicate i (-1)).map encI := List.take_of_length_le (by simp)
        simp only [L14_13, vI_mk, vB_mk, vS_mk, vL_mk, sVer_mk, sOff_mk, sLen_mk, oVer_mk, oEs_mk, cI_mk, cB_mk, cS_mk, cL_mk, cVer_mk, cOff_mk, cLen_mk, gI_zero, gI_succ, gB_zero, gB_succ, gS_zero, gS_succ, gL_zero, gL_succ, okI_zero, okI_succ, okB_zero, okB_succ, okS_zero, okS_succ, okL_zero, okL_succ, isIntT_int, isBoolT_bool, isStrT_str, isSlT_sl, intOf_int, boolOf_bool, strOf_str, slOf_sl, treeOf_t, srVer_sref, srOff_sref, srLen_sref, ver_row, esOf_row, cellOf_box, aI_mk, aB_mk, aS_mk, aL_mk, aggOf_agg, join_eq, List.getD_cons_zero, List.getD_cons_succ, decide_true, decide_false, cnd_true, cnd_false, true_and, and_true, false_and, and_false, Option.bind_some, Option.bind_none, List.length_cons, List.length_nil, List.length_map, List.getElem?_map, Option.map_some, Option.map_none, Int.toNat_natCast, reduceCtorEq, eq_self, if_true, if_false, Nat.zero_add, Nat.reduceAdd, Nat.reduceEqDiff, Int.natCast_nonneg, List.drop_zero, or_true, true_or, or_false, false_or, Bool.not_true, Bool.not_false, Bool.false_eq_true, decide_eq_true_eq, ge_iff_le, gt_iff_lt, (show (i : Int) < (l.length : Int) by omega), List.length_replicate, Nat.le_refl, (show i + 1 ≤ 1073741824 by omega), e1, w64_succ (show i < 4611686018427387904 by omega), Rd.go_next]
        rw [List.replicate_succ', List.map_append]
        rfl
      · refine key.mono fun n h again => ?_
        simp only [L14_13, vI_mk, vB_mk, vS_mk, vL_mk, sVer_mk, sOff_mk, sLen_mk, oVer_mk, oEs_mk, cI_mk, cB_mk, cS_mk, cL_mk, cVer_mk, cOff_mk, cLen_mk, gI_zero, gI_succ, gB_zero, gB_succ, gS_zero, gS_succ, gL_zero, gL_succ, okI_zero, okI_succ, okB_zero, okB_succ, okS_zero, okS_succ, okL_zero, okL_succ, isIntT_int, isBoolT_bool, isStrT_str, isSlT_sl, intOf_int, boolOf_bool, strOf_str, slOf_sl, treeOf_t, srVer_sref, srOff_sref, srLen_sref, ver_row, esOf_row, cellOf_box, aI_mk, aB_mk, aS_mk, aL_mk, aggOf_agg, join_eq, List.getD_cons_zero, List.getD_cons_succ, decide_true, decide_false, cnd_true, cnd_false, true_and, and_true, false_and, and_false, Option.bind_some, Option.bind_none, List.length_cons, List.length_nil, List.length_map, List.getElem?_map, Option.map_some, Option.map_none, Int.toNat_natCast, reduceCtorEq, eq_self, if_true, if_false, Nat.zero_add, Nat.reduceAdd, Nat.reduceEqDiff, Int.natCast_nonneg, List.drop_zero, or_true, true_or, or_false, false_or, Bool.not_true, Bool.not_false, Bool.false_eq_true, decide_eq_true_eq, ge_iff_le, gt_iff_lt, Int.lt_irrefl]
        refine Eq.trans ?_ h
        simp only [stR, startQ, zeroE, hpR, bxE, Nat.sub_self, List.map_nil, Int.natCast_zero]
  · refine (s40 l hl).mono fun n h => ?_
    have : (checkA l != 0) = true := by simp [hc]
    simp only [J14_14, r1, r2, vI_mk, vB_mk, vS_mk, vL_mk, sVer_mk, sOff_mk, sLen_mk, oVer_mk, oEs_mk, cI_mk, cB_mk, cS_mk, cL_mk, cVer_mk, cOff_mk, cLen_mk, gI_zero, gI_succ, gB_zero, gB_succ, gS_zero, gS_succ, gL_zero, gL_succ, okI_zero, okI_succ, okB_zero, okB_succ, okS_zero, okS_succ, okL_zero, okL_succ, isIntT_int, isBoolT_bool, isStrT_str, isSlT_sl, intOf_int, boolOf_bool, strOf_str, slOf_sl, treeOf_t, srVer_sref, srOff_sref, srLen_sref, ver_row, esOf_row, cellOf_box, aI_mk, aB_mk, aS_mk, aL_mk, aggOf_agg, join_eq, List.getD_cons_zero, List.getD_cons_succ, decide_true, decide_false, cnd_true, cnd_false, true_and, and_true, false_and, and_false, Option.bind_some, Option.bind_none, List.length_cons, List.length_nil, List.length_map, List.getElem?_map, Option.map_some, Option.map_none, Int.toNat_natCast, reduceCtorEq, eq_self, if_true, if_false, Nat.zero_add, Nat.reduceAdd, Nat.reduceEqDiff, Int.natCast_nonneg, List.drop_zero, or_true, true_or, or_false, false_or, Bool.not_true, Bool.not_false, Bool.false_eq_true, decide_eq_true_eq, ge_iff_le, gt_iff_lt, h, this]
    simp [hc]
end Ab
