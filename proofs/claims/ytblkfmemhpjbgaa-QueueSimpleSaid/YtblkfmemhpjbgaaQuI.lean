/- Parts of the proof: see the last text. -/
import Derived.Test.YtblkfmemhpjbgaaQuE
import Derived.Test.YtblkfmemhpjbgaaQuDec
import Derived.Test.YtblkfmemhpjbgaaQuY2
set_option linter.unusedVariables false
set_option linter.unusedSimpArgs false
namespace Ab
open Go


def hasA (l : List Arr) (t : Int) : Bool := l.any fun x => decide (x.e.ticket = t)
def chkA (l : List Arr) (i : Nat) (_ : Unit) (x : Arr) : Rd Unit Int :=
  if x.at_ < 0 ∨ 1099511627776 < x.at_ ∨ ¬ ValidE x.e then .done 2 else if i ≠ 0 ∧ (l[i - 1]?.map fun y => decide (x.at_ < y.at_)) = some true then .done 9 else if hasA (l.take i) x.e.ticket = true then .done 6 else .next ()
def checkA (l : List Arr) : Int := if 64 < l.length then 4 else runL (chkA l) (fun _ => 0) 0 l ()
def checkR (l : List Arr) (rate : Int) : Int := if rate < 1 ∨ 1000 < rate then 2 else checkA l
structure GoodA (l : List Arr) : Prop where
  len : l.length ≤ 64
  val : ∀ x ∈ l, (0 ≤ x.at_ ∧ x.at_ ≤ 1099511627776) ∧ ValidE x.e
  srt : l.Pairwise fun a b => a.at_ ≤ b.at_
  dis : l.Pairwise fun a b => a.e.ticket ≠ b.e.ticket
theorem hasA_false (l : List Arr) (t : Int) : hasA l t = false ↔ ∀ x ∈ l, x.e.ticket ≠ t := by
  unfold hasA
  rw [Bool.eq_false_iff, ne_eq, List.any_eq_true]
  simp
theorem run_zeroA {α : Type} (f : Nat → Unit → α → Rd Unit Int) (hf : ∀ i x r, f i () x = .done r → r ≠ 0) {l : List α} : ∀ (k i : Nat), i + k = l.length → (runL f (fun _ => (0 : Int)) i (l.drop i) () = 0 ↔ ∀ j x, i ≤ j → l[j]? = some x → f j () x = .next ())
  | 0, i, h => by
    have : l.drop i = [] := List.drop_eq_nil_of_le (by omega)
    rw [this]
    simp only [runL, true_iff]
    intro j x hj hx
    have := lt_of_some hx
    omega
  | k + 1, i, h => by
    have hi : i < l.length := by omega
    rw [List.drop_eq_getElem_cons hi]
    have ih := run_zeroA f hf (l := l) k (i + 1) (by omega)
    have hx : l[i]? = some l[i] := List.getElem?_eq_getElem hi
    cases hs : f i () l[i] with
    | next s =>
      simp only [runL, hs]
      rw [ih]
      constructor
      · intro h j x hj hjx
        rcases Nat.eq_or_lt_of_le hj with rfl | hj
        · rw [hx] at hjx; cases hjx; exact hs
        · exact h j x hj hjx
      · intro h j x hj hjx
        exact h j x (by omega) hjx
    | done r =>
      simp only [runL, hs]
      constructor
      · intro h; exact absurd h (hf _ _ _ hs)
      · intro h
        rw [h i _ (Nat.le_refl _) hx] at hs
        cases hs
theorem checkA_zero (l : List Arr) : checkA l = 0 ↔ GoodA l := by
  unfold checkA
  by_cases hl : 64 < l.length
  · rw [if_pos hl]
    constructor
    · intro h; cases h
    · intro h; have := h.len; omega
  · rw [if_neg hl]
    have key := run_zeroA (chkA l) (fun i x r h => by
      unfold chkA at h
      split at h
      · cases h; decide
      · split at h
        · cases h; decide
        · split at h
          · cases h; decide
          · cases h) (l := l) l.length 0 (by omega)
    rw [List.drop_zero] at key
    rw [key]
    constructor
    · intro h
      have hst : ∀ j x, l[j]? = some x → ((0 ≤ x.at_ ∧ x.at_ ≤ 1099511627776) ∧ ValidE x.e) ∧ hasA (l.take j) x.e.ticket = false ∧ (j ≠ 0 → ∃ y, l[j - 1]? = some y ∧ y.at_ ≤ x.at_) := by
        intro j x hx
        have hs := h j x (by omega) hx
        unfold chkA at hs
        split at hs
        · cases hs
        · rename_i hv
          split at hs
          · cases hs
          · rename_i ha
            split at hs
            · cases hs
            · rename_i hh
              refine ⟨⟨by omega, Classical.byContradiction fun hc => hv (.inr (.inr hc))⟩, by simpa using hh, fun hj => ?_⟩
              have hjl := lt_of_some hx
              have hp : l[j - 1]? = some l[j - 1] := List.getElem?_eq_getElem (by omega)
              refine ⟨_, hp, ?_⟩
              rw [hp, Option.map_some, Option.some.injEq, decide_eq_true_eq] at ha
              have : ¬ x.at_ < (l[j - 1]).at_ := fun hc => ha ⟨hj, hc⟩
              omega
      refine ⟨by omega, fun x hx => ?_, ?_, ?_⟩
      · obtain ⟨j, hj⟩ := List.mem_iff_getElem?.1 hx
        exact (hst j x hj).1
      · refine pairwise_adj (R := fun a b => a.at_ ≤ b.at_) (fun _ _ _ h1 h2 => Int.le_trans h1 h2) l fun j a b ha hb => ?_
        obtain ⟨y, hy, hyb⟩ := (hst (j + 1) b hb).2.2 (by omega)
        rw [Nat.add_sub_cancel, ha] at hy
        cases hy
        exact hyb
      · rw [List.pairwise_iff_getElem]
        intro i j hi hj hij
        exact (hasA_false _ _).1 (hst j l[j] (List.getElem?_eq_getElem hj)).2.1 l[i] (List.mem_iff_getElem?.2 ⟨i, by rw [List.getElem?_take_of_lt hij]; exact List.getElem?_eq_getElem hi⟩)
    · intro hg j x _ hx
      have hj := lt_of_some hx
      have hv := hg.val x (List.mem_of_getElem? hx)
      unfold chkA
      rw [if_neg (fun h => h.elim (fun h => by omega) fun h => h.elim (fun h => by omega) fun h => h hv.2)]
      have hh : hasA (l.take j) x.e.ticket = false := by
        rw [hasA_false]
        intro y hy
        obtain ⟨i, hi⟩ := List.mem_iff_getElem?.1 hy
        have hij : i < j := by have := lt_of_some hi; simp at this; omega
        rw [List.getElem?_take_of_lt hij] at hi
        have := List.pairwise_iff_getElem.1 hg.dis i j (lt_of_some hi) hj hij
        rw [List.getElem?_eq_getElem (lt_of_some hi)] at hi
        rw [List.getElem?_eq_getElem hj] at hx
        rw [← Option.some.inj hi, ← Option.some.inj hx]
        exact this
      rw [hh]
      rw [if_neg]
      · simp
      rintro ⟨hj0, hm⟩
      have hp : l[j - 1]? = some l[j - 1] := List.getElem?_eq_getElem (by omega)
      rw [hp, Option.map_some, Option.some.injEq, decide_eq_true_eq] at hm
      have := List.pairwise_iff_getElem.1 hg.srt (j - 1) j (by omega) hj (by omega)
      rw [List.getElem?_eq_getElem hj] at hx
      rw [← Option.some.inj hx] at hm
      omega

/-! ### checkArrivals -/
theorem s40 (l : List Arr) (hl : l.length ≤ 1000000) : Runs C 40 [.sl 5 (l.map Arr.enc)] [tI (checkA l)] := by
  refine Runs.of (fun n => e40 n _) ?_
  unfold checkA
  by_cases h : 64 < l.length
  · rw [if_pos h]
    refine Ev.of fun n => ?_
    simp only [vI_mk, vB_mk, vS_mk, vL_mk, sVer_mk, sOff_mk, sLen_mk, oVer_mk, oEs_mk, cI_mk, cB_mk, cS_mk, cL_mk, cVer_mk, cOff_mk, cLen_mk, gI_zero, gI_succ, gB_zero, gB_succ, gS_zero, gS_succ, gL_zero, gL_succ, okI_zero, okI_succ, okB_zero, okB_succ, okS_zero, okS_succ, okL_zero, okL_succ, isIntT_int, isBoolT_bool, isStrT_str, isSlT_sl, intOf_int, boolOf_bool, strOf_str, slOf_sl, treeOf_t, srVer_sref, srOff_sref, srLen_sref, ver_row, esOf_row, cellOf_box, aI_mk, aB_mk, aS_mk, aL_mk, aggOf_agg, join_eq, List.getD_cons_zero, List.getD_cons_succ, decide_true, decide_false, cnd_true, cnd_false, true_and, and_true, false_and, and_false, Option.bind_some, Option.bind_none, List.length_cons, List.length_nil, List.length_map, List.getElem?_map, Option.map_some, Option.map_none, Int.toNat_natCast, reduceCtorEq, eq_self, if_true, if_false, Nat.zero_add, Nat.reduceAdd, Nat.reduceEqDiff, Int.natCast_nonneg, List.drop_zero, or_true, true_or, or_false, false_or, Bool.not_true, Bool.not_false, Bool.false_eq_true, decide_eq_true_eq, ge_iff_le, gt_iff_lt, (show (64 : Int) < (l.length : Int) by omega)]
  · rw [if_neg h]
    simp only [vI_mk, vB_mk, vS_mk, vL_mk, sVer_mk, sOff_mk, sLen_mk, oVer_mk, oEs_mk, cI_mk, cB_mk, cS_mk, cL_mk, cVer_mk, cOff_mk, cLen_mk, gI_zero, gI_succ, gB_zero, gB_succ, gS_zero, gS_succ, gL_zero, gL_succ, okI_zero, okI_succ, okB_zero, okB_succ, okS_zero, okS_succ, okL_zero, okL_succ, isIntT_int, isBoolT_bool, isStrT_str, isSlT_sl, intOf_int, boolOf_bool, strOf_str, slOf_sl, treeOf_t, srVer_sref, srOff_sref, srLen_sref, ver_row, esOf_row, cellOf_box, aI_mk, aB_mk, aS_mk, aL_mk, aggOf_agg, join_eq, List.getD_cons_zero, List.getD_cons_succ, decide_true, decide_false, cnd_true, cnd_false, true_and, and_true, false_and, and_false, Option.bind_some, Option.bind_none, List.length_cons, List.length_nil, List.length_map, List.getElem?_map, Option.map_some, Option.map_none, Int.toNat_natCast, reduceCtorEq, eq_self, if_true, if_false, Nat.zero_add, Nat.reduceAdd, Nat.reduceEqDiff, Int.natCast_nonneg, List.drop_zero, or_true, true_or, or_false, false_or, Bool.not_true, Bool.not_false, Bool.false_eq_true, decide_eq_true_eq, ge_iff_le, gt_iff_lt, (show ¬ (64 : Int) < (l.length : Int) by omega)]
    refine loop_overQ (fun (r : Int) => [tI r]) l (fun i (_ : Unit) => (([.t (tI i)], []) : List AV × Heap)) (chkA l) (fun _ => 0) (fun _ _ => True) () rfl trivial rfl
      (fun i s x hx hI => ?_) (fun _ _ _ _ _ _ _ => trivial) (fun s hI => Ev.of fun n again => ?_)
    · have hi := lt_of_some hx
      have key : ∀ (L : Nat → List AV × Heap → (List AV × Heap → Option (List Tree)) → List AV × Heap → (List AV × Heap → Option (List Tree)) → Option (List Tree)),
          (∀ n p1 z p again, L n p1 z p again = cnd (decide (vI p 0 < vI p1 0) = true) (cnd ((5:Nat) = 5 ∧ 0 ≤ vI p 0) (Option.bind (l.map Arr.enc)[Int.toNat (vI p 0)]? fun y19 => cnd (okI y19 1) (cnd ((5:Nat) = 5 ∧ 0 ≤ vI p1 0) (Option.bind (l.map Arr.enc)[Int.toNat (vI p1 0)]? fun y20 => cnd (okI y20 1) (cnd ((gI y19 1 == gI y20 1) = true) (some [tI 6]) (again ([.t (tI (w64 (vI p 0 + 1)))], []))) none) none) none) none) (z ([.t (tI (w64 (vI p1 0 + 1)))], []))) →
          Ev fun n => ∀ z, loopIter (fun p again => L n ([.t (tI i)], []) z p again) n ([.t (tI 0)], []) = if hasA (l.take i) x.e.ticket = true then some [tI 6] else z ([.t (tI ((i + 1 : Nat) : Int))], []) := by
        intro L hL
        refine loop_overZ (R := List Tree) (Z := List AV × Heap → Option (List Tree)) (r := hasA (l.take i) x.e.ticket) (l.take i) (fun j (_ : Unit) => (([.t (tI j)], []) : List AV × Heap)) (fun _ _ y => if decide (y.e.ticket = x.e.ticket) = true then .done true else .next ()) (fun _ => false)
          (fun z (q : Bool) => if q = true then some [tI 6] else z ([.t (tI ((i + 1 : Nat) : Int))], [])) (fun _ _ => True) () rfl trivial (runL_any _ 0 _)
          (fun j s y hy hI => Ev.of fun n z again => ?_) (fun _ _ _ _ _ _ _ => trivial) (fun s hI => Ev.of fun n z again => ?_)
        · have hj : j < i := by have := lt_of_some hy; simp at this; omega
          rw [List.getElem?_take_of_lt hj] at hy
          simp only [hL, vI_mk, vB_mk, vS_mk, vL_mk, sVer_mk, sOff_mk, sLen_mk, oVer_mk, oEs_mk, cI_mk, cB_mk, cS_mk, cL_mk, cVer_mk, cOff_mk, cLen_mk, gI_zero, gI_succ, gB_zero, gB_succ, gS_zero, gS_succ, gL_zero, gL_succ, okI_zero, okI_succ, okB_zero, okB_succ, okS_zero, okS_succ, okL_zero, okL_succ, isIntT_int, isBoolT_bool, isStrT_str, isSlT_sl, intOf_int, boolOf_bool, strOf_str, slOf_sl, treeOf_t, srVer_sref, srOff_sref, srLen_sref, ver_row, esOf_row, cellOf_box, aI_mk, aB_mk, aS_mk, aL_mk, aggOf_agg, join_eq, List.getD_cons_zero, List.getD_cons_succ, decide_true, decide_false, cnd_true, cnd_false, true_and, and_true, false_and, and_false, Option.bind_some, Option.bind_none, List.length_cons, List.length_nil, List.length_map, List.getElem?_map, Option.map_some, Option.map_none, Int.toNat_natCast, reduceCtorEq, eq_self, if_true, if_false, Nat.zero_add, Nat.reduceAdd, Nat.reduceEqDiff, Int.natCast_nonneg, List.drop_zero, or_true, true_or, or_false, false_or, Bool.not_true, Bool.not_false, Bool.false_eq_true, decide_eq_true_eq, ge_iff_le, gt_iff_lt, hy, hx, Arr.enc, (show (j : Int) < (i : Int) by omega), w64_succ (show j < 4611686018427387904 by omega), beq_iff_eq]
          by_cases h : y.e.ticket = x.e.ticket <;> simp [h, cnd_eq, Rd.go_next, Rd.go_done]
        · have hli : (l.take i).length = i := by simp; omega
          simp only [hL, vI_mk, vB_mk, vS_mk, vL_mk, sVer_mk, sOff_mk, sLen_mk, oVer_mk, oEs_mk, cI_mk, cB_mk, cS_mk, cL_mk, cVer_mk, cOff_mk, cLen_mk, gI_zero, gI_succ, gB_zero, gB_succ, gS_zero, gS_succ, gL_zero, gL_succ, okI_zero, okI_succ, okB_zero, okB_succ, okS_zero, okS_succ, okL_zero, okL_succ, isIntT_int, isBoolT_bool, isStrT_str, isSlT_sl, intOf_int, boolOf_bool, strOf_str, slOf_sl, treeOf_t, srVer_sref, srOff_sref, srLen_sref, ver_row, esOf_row, cellOf_box, aI_mk, aB_mk, aS_mk, aL_mk, aggOf_agg, join_eq, List.getD_cons_zero, List.getD_cons_succ, decide_true, decide_false, cnd_true, cnd_false, true_and, and_true, false_and, and_false, Option.bind_some, Option.bind_none, List.length_cons, List.length_nil, List.length_map, List.getElem?_map, Option.map_some, Option.map_none, Int.toNat_natCast, reduceCtorEq, eq_self, if_true, if_false, Nat.zero_add, Nat.reduceAdd, Nat.reduceEqDiff, Int.natCast_nonneg, List.drop_zero, or_true, true_or, or_false, false_or, Bool.not_true, Bool.not_false, Bool.false_eq_true, decide_eq_true_eq, ge_iff_le, gt_iff_lt, hli, Int.lt_irrefl, w64_succ (show i < 4611686018427387904 by omega)]
      by_cases hi0 : i = 0
      · subst hi0
        refine ((s49 x.e).and (key (fun n p1 z p again => L40_3 n p1 (l.map Arr.enc) z p again) fun _ _ _ _ _ => rfl)).mono fun n h again => ?_
        obtain ⟨h1, h2⟩ := h
        simp only [Entry.enc] at h1
        simp only [Int.natCast_zero] at h2
        simp only [L40_5, J40_4, vI_mk, vB_mk, vS_mk, vL_mk, sVer_mk, sOff_mk, sLen_mk, oVer_mk, oEs_mk, cI_mk, cB_mk, cS_mk, cL_mk, cVer_mk, cOff_mk, cLen_mk, gI_zero, gI_succ, gB_zero, gB_succ, gS_zero, gS_succ, gL_zero, gL_succ, okI_zero, okI_succ, okB_zero, okB_succ, okS_zero, okS_succ, okL_zero, okL_succ, isIntT_int, isBoolT_bool, isStrT_str, isSlT_sl, intOf_int, boolOf_bool, strOf_str, slOf_sl, treeOf_t, srVer_sref, srOff_sref, srLen_sref, ver_row, esOf_row, cellOf_box, aI_mk, aB_mk, aS_mk, aL_mk, aggOf_agg, join_eq, List.getD_cons_zero, List.getD_cons_succ, decide_true, decide_false, cnd_true, cnd_false, true_and, and_true, false_and, and_false, Option.bind_some, Option.bind_none, List.length_cons, List.length_nil, List.length_map, List.getElem?_map, Option.map_some, Option.map_none, Int.toNat_natCast, reduceCtorEq, eq_self, if_true, if_false, Nat.zero_add, Nat.reduceAdd, Nat.reduceEqDiff, Int.natCast_nonneg, List.drop_zero, or_true, true_or, or_false, false_or, Bool.not_true, Bool.not_false, Bool.false_eq_true, decide_eq_true_eq, ge_iff_le, gt_iff_lt, hx, Arr.enc, (show (0 : Int) < (l.length : Int) by omega), h1, Int.natCast_zero, Int.lt_irrefl, Int.toNat_zero, Int.le_refl, h2]
        unfold chkA
        simp only [ne_eq, not_true, false_and, if_false]
        by_cases a1 : x.at_ < 0
        · simp [a1, cnd_eq, Rd.go_done]
        · by_cases a2 : 1099511627776 < x.at_
          · simp [a1, a2, cnd_eq, Rd.go_done]
          · by_cases a3 : ValidE x.e
            · simp [a1, a2, a3, cnd_eq, Rd.go_done, Rd.go_next, hasA]
            · simp [a1, a2, a3, cnd_eq, Rd.go_done]
      · have hp : l[i - 1]? = some l[i - 1] := List.getElem?_eq_getElem (by omega)
        refine ((s49 x.e).and (key (fun n p1 z p again => L40_2 n p1 (l.map Arr.enc) z p again) fun _ _ _ _ _ => rfl)).mono fun n h again => ?_
        obtain ⟨h1, h2⟩ := h
        simp only [Entry.enc] at h1
        simp only [L40_5, J40_4, vI_mk, vB_mk, vS_mk, vL_mk, sVer_mk, sOff_mk, sLen_mk, oVer_mk, oEs_mk, cI_mk, cB_mk, cS_mk, cL_mk, cVer_mk, cOff_mk, cLen_mk, gI_zero, gI_succ, gB_zero, gB_succ, gS_zero, gS_succ, gL_zero, gL_succ, okI_zero, okI_succ, okB_zero, okB_succ, okS_zero, okS_succ, okL_zero, okL_succ, isIntT_int, isBoolT_bool, isStrT_str, isSlT_sl, intOf_int, boolOf_bool, strOf_str, slOf_sl, treeOf_t, srVer_sref, srOff_sref, srLen_sref, ver_row, esOf_row, cellOf_box, aI_mk, aB_mk, aS_mk, aL_mk, aggOf_agg, join_eq, List.getD_cons_zero, List.getD_cons_succ, decide_true, decide_false, cnd_true, cnd_false, true_and, and_true, false_and, and_false, Option.bind_some, Option.bind_none, List.length_cons, List.length_nil, List.length_map, List.getElem?_map, Option.map_some, Option.map_none, Int.toNat_natCast, reduceCtorEq, eq_self, if_true, if_false, Nat.zero_add, Nat.reduceAdd, Nat.reduceEqDiff, Int.natCast_nonneg, List.drop_zero, or_true, true_or, or_false, false_or, Bool.not_true, Bool.not_false, Bool.false_eq_true, decide_eq_true_eq, ge_iff_le, gt_iff_lt, hx, hp, Arr.enc, (show (i : Int) < l.length by omega), h1, (show (0 : Int) < (i : Int) by omega), w64_pred (show i < 4611686018427387904 by omega) (by omega), h2]
        unfold chkA
        simp only [ne_eq, hi0, not_false_eq_true, true_and, hp, Option.map_some, Option.some.injEq, decide_eq_true_eq]
        by_cases a1 : x.at_ < 0
        · simp [a1, cnd_eq, Rd.go_done]
        · by_cases a2 : 1099511627776 < x.at_
          · simp [a1, a2, cnd_eq, Rd.go_done]
          · by_cases a3 : ValidE x.e
            · by_cases a4 : x.at_ < (l[i - 1]).at_
              · simp [a1, a2, a3, a4, cnd_eq, Rd.go_done]
              · cases a5 : hasA (l.take i) x.e.ticket <;> simp [a1, a2, a3, a4, a5, cnd_eq, Rd.go_done, Rd.go_next]
            · simp [a1, a2, a3, cnd_eq, Rd.go_done]
    · simp only [L40_5, vI_mk, vB_mk, vS_mk, vL_mk, sVer_mk, sOff_mk, sLen_mk, oVer_mk, oEs_mk, cI_mk, cB_mk, cS_mk, cL_mk, cVer_mk, cOff_mk, cLen_mk, gI_zero, gI_succ, gB_zero, gB_succ, gS_zero, gS_succ, gL_zero, gL_succ, okI_zero, okI_succ, okB_zero, okB_succ, okS_zero, okS_succ, okL_zero, okL_succ, isIntT_int, isBoolT_bool, isStrT_str, isSlT_sl, intOf_int, boolOf_bool, strOf_str, slOf_sl, treeOf_t, srVer_sref, srOff_sref, srLen_sref, ver_row, esOf_row, cellOf_box, aI_mk, aB_mk, aS_mk, aL_mk, aggOf_agg, join_eq, List.getD_cons_zero, List.getD_cons_succ, decide_true, decide_false, cnd_true, cnd_false, true_and, and_true, false_and, and_false, Option.bind_some, Option.bind_none, List.length_cons, List.length_nil, List.length_map, List.getElem?_map, Option.map_some, Option.map_none, Int.toNat_natCast, reduceCtorEq, eq_self, if_true, if_false, Nat.zero_add, Nat.reduceAdd, Nat.reduceEqDiff, Int.natCast_nonneg, List.drop_zero, or_true, true_or, or_false, false_or, Bool.not_true, Bool.not_false, Bool.false_eq_true, decide_eq_true_eq, ge_iff_le, gt_iff_lt, Int.lt_irrefl]
theorem s36 (l : List Arr) (rate : Int) (hl : l.length ≤ 1000000) : Runs C 36 [.sl 5 (l.map Arr.enc), tI rate] [tI (checkR l rate)] := by
  refine Runs.of (fun n => e36 n _ _) ?_
  unfold checkR
  by_cases r1 : rate < 1
  · refine Ev.of fun n => ?_
    simp [r1, cnd_eq]
  by_cases r2 : 1000 < rate
  · refine Ev.of fun n => ?_
    simp [r1, r2, cnd_eq]
  rw [if_neg (by omega)]
  unfold checkA
  by_cases h : 64 < l.length
  · rw [if_pos h]
    refine Ev.of fun n => ?_
    simp only [vI_mk, vB_mk, vS_mk, vL_mk, sVer_mk, sOff_mk, sLen_mk, oVer_mk, oEs_mk, cI_mk, cB_mk, cS_mk, cL_mk, cVer_mk, cOff_mk, cLen_mk, gI_zero, gI_succ, gB_zero, gB_succ, gS_zero, gS_succ, gL_zero, gL_succ, okI_zero, okI_succ, okB_zero, okB_succ, okS_zero, okS_succ, okL_zero, okL_succ, isIntT_int, isBoolT_bool, isStrT_str, isSlT_sl, intOf_int, boolOf_bool, strOf_str, slOf_sl, treeOf_t, srVer_sref, srOff_sref, srLen_sref, ver_row, esOf_row, cellOf_box, aI_mk, aB_mk, aS_mk, aL_mk, aggOf_agg, join_eq, List.getD_cons_zero, List.getD_cons_succ, decide_true, decide_false, cnd_true, cnd_false, true_and, and_true, false_and, and_false, Option.bind_some, Option.bind_none, List.length_cons, List.length_nil, List.length_map, List.getElem?_map, Option.map_some, Option.map_none, Int.toNat_natCast, reduceCtorEq, eq_self, if_true, if_false, Nat.zero_add, Nat.reduceAdd, Nat.reduceEqDiff, Int.natCast_nonneg, List.drop_zero, or_true, true_or, or_false, false_or, Bool.not_true, Bool.not_false, Bool.false_eq_true, decide_eq_true_eq, ge_iff_le, gt_iff_lt, r1, r2, (show (64 : Int) < (l.length : Int) by omega)]
  · rw [if_neg h]
    simp only [vI_mk, vB_mk, vS_mk, vL_mk, sVer_mk, sOff_mk, sLen_mk, oVer_mk, oEs_mk, cI_mk, cB_mk, cS_mk, cL_mk, cVer_mk, cOff_mk, cLen_mk, gI_zero, gI_succ, gB_zero, gB_succ, gS_zero, gS_succ, gL_zero, gL_succ, okI_zero, okI_succ, okB_zero, okB_succ, okS_zero, okS_succ, okL_zero, okL_succ, isIntT_int, isBoolT_bool, isStrT_str, isSlT_sl, intOf_int, boolOf_bool, strOf_str, slOf_sl, treeOf_t, srVer_sref, srOff_sref, srLen_sref, ver_row, esOf_row, cellOf_box, aI_mk, aB_mk, aS_mk, aL_mk, aggOf_agg, join_eq, List.getD_cons_zero, List.getD_cons_succ, decide_true, decide_false, cnd_true, cnd_false, true_and, and_true, false_and, and_false, Option.bind_some, Option.bind_none, List.length_cons, List.length_nil, List.length_map, List.getElem?_map, Option.map_some, Option.map_none, Int.toNat_natCast, reduceCtorEq, eq_self, if_true, if_false, Nat.zero_add, Nat.reduceAdd, Nat.reduceEqDiff, Int.natCast_nonneg, List.drop_zero, or_true, true_or, or_false, false_or, Bool.not_true, Bool.not_false, Bool.false_eq_true, decide_eq_true_eq, ge_iff_le, gt_iff_lt, r1, r2, (show ¬ (64 : Int) < (l.length : Int) by omega)]
    refine loop_overQ (fun (r : Int) => [tI r]) l (fun i (_ : Unit) => (([.t (tI i)], []) : List AV × Heap)) (chkA l) (fun _ => 0) (fun _ _ => True) () rfl trivial rfl
      (fun i s x hx hI => ?_) (fun _ _ _ _ _ _ _ => trivial) (fun s hI => Ev.of fun n again => ?_)
    · have hi := lt_of_some hx
      have hli : (l.take i).length = i := by simp; omega
      have key : Ev fun n => ∀ z, loopIter (fun p again => L36_7 n ([.t (tI i)], []) (l.map Arr.enc) x.enc z p again) n ([.t (tI 0)], [.box []]) = z ([.t (tI (idx (fun y : Arr => decide (y.e.ticket = x.e.ticket)) (l.take i)))], [.box []]) := by
        refine loop_overZ (R := List Tree) (Z := List AV × Heap → Option (List Tree)) (B := fun n z p again => L36_7 n ([.t (tI i)], []) (l.map Arr.enc) x.enc z p again) (l.take i) (fun j (_ : Unit) => (([.t (tI j)], [.box []]) : List AV × Heap)) (fun j _ y => if decide (y.e.ticket = x.e.ticket) = true then .done (j : Int) else .next ()) (fun _ => -1)
          (fun z (q : Int) => z ([.t (tI q)], [.box []])) (fun _ _ => True) () rfl trivial (find_run0 _ _)
          (fun j s y hy hI => Ev.of fun n z again => ?_) (fun _ _ _ _ _ _ _ => trivial) (fun s hI => Ev.of fun n z again => ?_)
        · have hj : j < i := by have := lt_of_some hy; simp at this; omega
          have hy2 : (List.take i (l.map Arr.enc))[j]? = some y.enc := by rw [← List.map_take, List.getElem?_map, hy]; rfl
          have hln : (List.take i (l.map Arr.enc)).length = i := by simp; omega
          simp only [L36_7, vI_mk, vB_mk, vS_mk, vL_mk, sVer_mk, sOff_mk, sLen_mk, oVer_mk, oEs_mk, cI_mk, cB_mk, cS_mk, cL_mk, cVer_mk, cOff_mk, cLen_mk, gI_zero, gI_succ, gB_zero, gB_succ, gS_zero, gS_succ, gL_zero, gL_succ, okI_zero, okI_succ, okB_zero, okB_succ, okS_zero, okS_succ, okL_zero, okL_succ, isIntT_int, isBoolT_bool, isStrT_str, isSlT_sl, intOf_int, boolOf_bool, strOf_str, slOf_sl, treeOf_t, srVer_sref, srOff_sref, srLen_sref, ver_row, esOf_row, cellOf_box, aI_mk, aB_mk, aS_mk, aL_mk, aggOf_agg, join_eq, List.getD_cons_zero, List.getD_cons_succ, decide_true, decide_false, cnd_true, cnd_false, true_and, and_true, false_and, and_false, Option.bind_some, Option.bind_none, List.length_cons, List.length_nil, List.length_map, List.getElem?_map, Option.map_some, Option.map_none, Int.toNat_natCast, reduceCtorEq, eq_self, if_true, if_false, Nat.zero_add, Nat.reduceAdd, Nat.reduceEqDiff, Int.natCast_nonneg, List.drop_zero, or_true, true_or, or_false, false_or, Bool.not_true, Bool.not_false, Bool.false_eq_true, decide_eq_true_eq, ge_iff_le, gt_iff_lt, hy2, hln, Arr.enc, (show (j : Int) < (i : Int) by omega), w64_succ (show j < 4611686018427387904 by omega), beq_iff_eq]
          by_cases h : y.e.ticket = x.e.ticket <;> simp [h, cnd_eq, Rd.go_next, Rd.go_done]
        · have hln : (List.take i (l.map Arr.enc)).length = i := by simp; omega
          simp only [L36_7, vI_mk, vB_mk, vS_mk, vL_mk, sVer_mk, sOff_mk, sLen_mk, oVer_mk, oEs_mk, cI_mk, cB_mk, cS_mk, cL_mk, cVer_mk, cOff_mk, cLen_mk, gI_zero, gI_succ, gB_zero, gB_succ, gS_zero, gS_succ, gL_zero, gL_succ, okI_zero, okI_succ, okB_zero, okB_succ, okS_zero, okS_succ, okL_zero, okL_succ, isIntT_int, isBoolT_bool, isStrT_str, isSlT_sl, intOf_int, boolOf_bool, strOf_str, slOf_sl, treeOf_t, srVer_sref, srOff_sref, srLen_sref, ver_row, esOf_row, cellOf_box, aI_mk, aB_mk, aS_mk, aL_mk, aggOf_agg, join_eq, List.getD_cons_zero, List.getD_cons_succ, decide_true, decide_false, cnd_true, cnd_false, true_and, and_true, false_and, and_false, Option.bind_some, Option.bind_none, List.length_cons, List.length_nil, List.length_map, List.getElem?_map, Option.map_some, Option.map_none, Int.toNat_natCast, reduceCtorEq, eq_self, if_true, if_false, Nat.zero_add, Nat.reduceAdd, Nat.reduceEqDiff, Int.natCast_nonneg, List.drop_zero, or_true, true_or, or_false, false_or, Bool.not_true, Bool.not_false, Bool.false_eq_true, decide_eq_true_eq, ge_iff_le, gt_iff_lt, hln, hli, Int.lt_irrefl]
      have hix := idx_nonneg (fun y : Arr => decide (y.e.ticket = x.e.ticket)) (l.take i)
      have hixd : (0 ≤ idx (fun y : Arr => decide (y.e.ticket = x.e.ticket)) (l.take i)) = (hasA (l.take i) x.e.ticket = true) := propext hix
      simp only [Arr.enc] at key
      by_cases hi0 : i = 0
      · subst hi0
        refine ((s43 x.e).and key).mono fun n h again => ?_
        obtain ⟨h1, h2⟩ := h
        simp only [Entry.enc] at h1
        simp only [Int.natCast_zero] at h2
        simp only [L36_12, J36_11, J36_10, J36_8, J36_9, vI_mk, vB_mk, vS_mk, vL_mk, sVer_mk, sOff_mk, sLen_mk, oVer_mk, oEs_mk, cI_mk, cB_mk, cS_mk, cL_mk, cVer_mk, cOff_mk, cLen_mk, gI_zero, gI_succ, gB_zero, gB_succ, gS_zero, gS_succ, gL_zero, gL_succ, okI_zero, okI_succ, okB_zero, okB_succ, okS_zero, okS_succ, okL_zero, okL_succ, isIntT_int, isBoolT_bool, isStrT_str, isSlT_sl, intOf_int, boolOf_bool, strOf_str, slOf_sl, treeOf_t, srVer_sref, srOff_sref, srLen_sref, ver_row, esOf_row, cellOf_box, aI_mk, aB_mk, aS_mk, aL_mk, aggOf_agg, join_eq, List.getD_cons_zero, List.getD_cons_succ, decide_true, decide_false, cnd_true, cnd_false, true_and, and_true, false_and, and_false, Option.bind_some, Option.bind_none, List.length_cons, List.length_nil, List.length_map, List.getElem?_map, Option.map_some, Option.map_none, Int.toNat_natCast, reduceCtorEq, eq_self, if_true, if_false, Nat.zero_add, Nat.reduceAdd, Nat.reduceEqDiff, Int.natCast_nonneg, List.drop_zero, or_true, true_or, or_false, false_or, Bool.not_true, Bool.not_false, Bool.false_eq_true, decide_eq_true_eq, ge_iff_le, gt_iff_lt, hx, Arr.enc, (show (0 : Int) < (l.length : Int) by omega), h1, Int.natCast_zero, Int.lt_irrefl, Int.toNat_zero, Int.le_refl, (show (0 : Int) ≤ (l.length : Int) by omega), h2, hixd]
        unfold chkA
        simp only [ne_eq, not_true, false_and, if_false]
        have w1 : w64 (0 + 1) = 1 := w64_id (by omega) (by omega)
        by_cases a1 : x.at_ < 0
        · simp [a1, cnd_eq, Rd.go_done]
        · by_cases a2 : 1099511627776 < x.at_
          · simp [a1, a2, cnd_eq, Rd.go_done]
          · by_cases a3 : ValidE x.e
            · simp only [a1, a2, a3, vI_mk, vB_mk, vS_mk, vL_mk, sVer_mk, sOff_mk, sLen_mk, oVer_mk, oEs_mk, cI_mk, cB_mk, cS_mk, cL_mk, cVer_mk, cOff_mk, cLen_mk, gI_zero, gI_succ, gB_zero, gB_succ, gS_zero, gS_succ, gL_zero, gL_succ, okI_zero, okI_succ, okB_zero, okB_succ, okS_zero, okS_succ, okL_zero, okL_succ, isIntT_int, isBoolT_bool, isStrT_str, isSlT_sl, intOf_int, boolOf_bool, strOf_str, slOf_sl, treeOf_t, srVer_sref, srOff_sref, srLen_sref, ver_row, esOf_row, cellOf_box, aI_mk, aB_mk, aS_mk, aL_mk, aggOf_agg, join_eq, List.getD_cons_zero, List.getD_cons_succ, decide_true, decide_false, cnd_true, cnd_false, true_and, and_true, false_and, and_false, Option.bind_some, Option.bind_none, List.length_cons, List.length_nil, List.length_map, List.getElem?_map, Option.map_some, Option.map_none, Int.toNat_natCast, reduceCtorEq, eq_self, if_true, if_false, Nat.zero_add, Nat.reduceAdd, Nat.reduceEqDiff, Int.natCast_nonneg, List.drop_zero, or_true, true_or, or_false, false_or, Bool.not_true, Bool.not_false, Bool.false_eq_true, decide_eq_true_eq, ge_iff_le, gt_iff_lt, Rd.go_done, Rd.go_next, hasA, List.take_zero, List.any_nil, w1]
              simp [Rd.go_next]
            · simp [a1, a2, a3, cnd_eq, Rd.go_done]
      · have hp : l[i - 1]? = some l[i - 1] := List.getElem?_eq_getElem (by omega)
        refine ((s43 x.e).and key).mono fun n h again => ?_
        obtain ⟨h1, h2⟩ := h
        simp only [Entry.enc] at h1
        simp only [L36_12, J36_11, J36_10, J36_8, J36_9, vI_mk, vB_mk, vS_mk, vL_mk, sVer_mk, sOff_mk, sLen_mk, oVer_mk, oEs_mk, cI_mk, cB_mk, cS_mk, cL_mk, cVer_mk, cOff_mk, cLen_mk, gI_zero, gI_succ, gB_zero, gB_succ, gS_zero, gS_succ, gL_zero, gL_succ, okI_zero, okI_succ, okB_zero, okB_succ, okS_zero, okS_succ, okL_zero, okL_succ, isIntT_int, isBoolT_bool, isStrT_str, isSlT_sl, intOf_int, boolOf_bool, strOf_str, slOf_sl, treeOf_t, srVer_sref, srOff_sref, srLen_sref, ver_row, esOf_row, cellOf_box, aI_mk, aB_mk, aS_mk, aL_mk, aggOf_agg, join_eq, List.getD_cons_zero, List.getD_cons_succ, decide_true, decide_false, cnd_true, cnd_false, true_and, and_true, false_and, and_false, Option.bind_some, Option.bind_none, List.length_cons, List.length_nil, List.length_map, List.getElem?_map, Option.map_some, Option.map_none, Int.toNat_natCast, reduceCtorEq, eq_self, if_true, if_false, Nat.zero_add, Nat.reduceAdd, Nat.reduceEqDiff, Int.natCast_nonneg, List.drop_zero, or_true, true_or, or_false, false_or, Bool.not_true, Bool.not_false, Bool.false_eq_true, decide_eq_true_eq, ge_iff_le, gt_iff_lt, hx, hp, Arr.enc, (show (i : Int) < l.length by omega), h1, (show (0 : Int) < (i : Int) by omega), (show (i : Int) ≤ (l.length : Int) by omega), w64_pred (show i < 4611686018427387904 by omega) (by omega), h2, hixd, w64_succ (show i < 4611686018427387904 by omega)]
        unfold chkA
        simp only [ne_eq, hi0, not_false_eq_true, true_and, hp, Option.map_some, Option.some.injEq, decide_eq_true_eq]
        by_cases a1 : x.at_ < 0
        · simp [a1, cnd_eq, Rd.go_done]
        · by_cases a2 : 1099511627776 < x.at_
          · simp [a1, a2, cnd_eq, Rd.go_done]
          · by_cases a3 : ValidE x.e
            · by_cases a4 : x.at_ < (l[i - 1]).at_
              · simp [a1, a2, a3, a4, cnd_eq, Rd.go_done]
              · cases a5 : hasA (l.take i) x.e.ticket <;> simp [a1, a2, a3, a4, a5, cnd_eq, Rd.go_done, Rd.go_next]
            · simp [a1, a2, a3, cnd_eq, Rd.go_done]
    · simp only [L36_12, vI_mk, vB_mk, vS_mk, vL_mk, sVer_mk, sOff_mk, sLen_mk, oVer_mk, oEs_mk, cI_mk, cB_mk, cS_mk, cL_mk, cVer_mk, cOff_mk, cLen_mk, gI_zero, gI_succ, gB_zero, gB_succ, gS_zero, gS_succ, gL_zero, gL_succ, okI_zero, okI_succ, okB_zero, okB_succ, okS_zero, okS_succ, okL_zero, okL_succ, isIntT_int, isBoolT_bool, isStrT_str, isSlT_sl, intOf_int, boolOf_bool, strOf_str, slOf_sl, treeOf_t, srVer_sref, srOff_sref, srLen_sref, ver_row, esOf_row, cellOf_box, aI_mk, aB_mk, aS_mk, aL_mk, aggOf_agg, join_eq, List.getD_cons_zero, List.getD_cons_succ, decide_true, decide_false, cnd_true, cnd_false, true_and, and_true, false_and, and_false, Option.bind_some, Option.bind_none, List.length_cons, List.length_nil, List.length_map, List.getElem?_map, Option.map_some, Option.map_none, Int.toNat_natCast, reduceCtorEq, eq_self, if_true, if_false, Nat.zero_add, Nat.reduceAdd, Nat.reduceEqDiff, Int.natCast_nonneg, List.drop_zero, or_true, true_or, or_false, false_or, Bool.not_true, Bool.not_false, Bool.false_eq_true, decide_eq_true_eq, ge_iff_le, gt_iff_lt, Int.lt_irrefl]
end Ab

set_option linter.unusedVariables false
set_option linter.unusedSimpArgs false
namespace Ab
open Go
theorem mul1 : ∀ k : Fin 65, (IntKind.wrap IntKind.u64 ((IntKind.wrap IntKind.u64 ((IntKind.wrap IntKind.u64 ((shrK IntKind.u64 (1 : Int) (32:Int)) * (shrK IntKind.u64 ((k.val : Nat) : Int) (32:Int)))) + (shrK IntKind.u64 (IntKind.wrap IntKind.u64 ((IntKind.wrap IntKind.u64 ((shrK IntKind.u64 (1 : Int) (32:Int)) * (andK IntKind.u64 ((k.val : Nat) : Int) (4294967295:Int)))) + (shrK IntKind.u64 (IntKind.wrap IntKind.u64 ((andK IntKind.u64 (1 : Int) (4294967295:Int)) * (andK IntKind.u64 ((k.val : Nat) : Int) (4294967295:Int)))) (32:Int)))) (32:Int)))) + (shrK IntKind.u64 (IntKind.wrap IntKind.u64 ((andK IntKind.u64 (IntKind.wrap IntKind.u64 ((IntKind.wrap IntKind.u64 ((shrK IntKind.u64 (1 : Int) (32:Int)) * (andK IntKind.u64 ((k.val : Nat) : Int) (4294967295:Int)))) + (shrK IntKind.u64 (IntKind.wrap IntKind.u64 ((andK IntKind.u64 (1 : Int) (4294967295:Int)) * (andK IntKind.u64 ((k.val : Nat) : Int) (4294967295:Int)))) (32:Int)))) (4294967295:Int)) + (IntKind.wrap IntKind.u64 ((andK IntKind.u64 (1 : Int) (4294967295:Int)) * (shrK IntKind.u64 ((k.val : Nat) : Int) (32:Int)))))) (32:Int)))) = 0 ∧ IntKind.wrap .u64 ((1 : Int) * ((k.val : Nat) : Int)) = ((k.val : Nat) : Int) := by decide +kernel
theorem s69 (k : Nat) (hk : k ≤ 64) : Runs C 69 [.int .u64 1, .int .u64 k] [.int .u64 0, .int .u64 k] := by
  refine Runs.of (fun n => e69 n _ _) (Ev.of fun n => ?_)
  have := mul1 ⟨k, by omega⟩
  simp only at this
  rw [this.1, this.2]
theorem s59 (k : Nat) (hk : k ≤ 64) : Runs C 59 [.int .u64 1, .int .u64 k] [.int .u64 0, .int .u64 k] := by
  refine Runs.of (fun n => e59 n _ _) ?_
  refine (s69 k hk).mono fun n h => ?_
  simp only [h, vI_mk, vB_mk, vS_mk, vL_mk, sVer_mk, sOff_mk, sLen_mk, oVer_mk, oEs_mk, cI_mk, cB_mk, cS_mk, cL_mk, cVer_mk, cOff_mk, cLen_mk, gI_zero, gI_succ, gB_zero, gB_succ, gS_zero, gS_succ, gL_zero, gL_succ, okI_zero, okI_succ, okB_zero, okB_succ, okS_zero, okS_succ, okL_zero, okL_succ, isIntT_int, isBoolT_bool, isStrT_str, isSlT_sl, intOf_int, boolOf_bool, strOf_str, slOf_sl, treeOf_t, srVer_sref, srOff_sref, srLen_sref, ver_row, esOf_row, cellOf_box, aI_mk, aB_mk, aS_mk, aL_mk, aggOf_agg, join_eq, List.getD_cons_zero, List.getD_cons_succ, decide_true, decide_false, cnd_true, cnd_false, true_and, and_true, false_and, and_false, Option.bind_some, Option.bind_none, List.length_cons, List.length_nil, List.length_map, List.getElem?_map, Option.map_some, Option.map_none, Int.toNat_natCast, reduceCtorEq, eq_self, if_true, if_false, Nat.zero_add, Nat.reduceAdd, Nat.reduceEqDiff, Int.natCast_nonneg, List.drop_zero, or_true, true_or, or_false, false_or, Bool.not_true, Bool.not_false, Bool.false_eq_true, decide_eq_true_eq, ge_iff_le, gt_iff_lt]
/-- Doubling fills a row with one element. -/
def dblStep (k : Nat) (j : Nat) : Rd Nat Unit := if j < k then .next (min (2 * j) k) else .done ()
theorem s1000037 (k : Nat) (hk : k ≤ 64) : Runs C 1000037 [.sl 1 [[tI (-1)]], tI k] [.sl 1 (List.replicate k [tI (-1)])] := by
  refine Runs.of (fun n => e1000037 n _ _) ?_
  have hw1 : IntKind.wrap .u64 (1 : Int) = 1 := by rw [wrapU64]; omega
  have hw2 : IntKind.wrap .u64 (k : Int) = (k : Int) := by rw [wrapU64]; omega
  have hw3 : w64 (k : Int) = (k : Int) := w64_id (by omega) (by omega)
  refine Ev.rw (T' := ?TT) (s59 k hk) (fun n h => ?g1) ?g2
  case g1 =>
    simp only [List.length_cons, List.length_nil, Nat.zero_add, (show ((1 : Nat) : Int) = 1 from rfl), hw1, hw2, h, vI_mk, vB_mk, vS_mk, vL_mk, sVer_mk, sOff_mk, sLen_mk, oVer_mk, oEs_mk, cI_mk, cB_mk, cS_mk, cL_mk, cVer_mk, cOff_mk, cLen_mk, gI_zero, gI_succ, gB_zero, gB_succ, gS_zero, gS_succ, gL_zero, gL_succ, okI_zero, okI_succ, okB_zero, okB_succ, okS_zero, okS_succ, okL_zero, okL_succ, isIntT_int, isBoolT_bool, isStrT_str, isSlT_sl, intOf_int, boolOf_bool, strOf_str, slOf_sl, treeOf_t, srVer_sref, srOff_sref, srLen_sref, ver_row, esOf_row, cellOf_box, aI_mk, aB_mk, aS_mk, aL_mk, aggOf_agg, join_eq, List.getD_cons_zero, List.getD_cons_succ, decide_true, decide_false, cnd_true, cnd_false, true_and, and_true, false_and, and_false, Option.bind_some, Option.bind_none, List.length_cons, List.length_nil, List.length_map, List.getElem?_map, Option.map_some, Option.map_none, Int.toNat_natCast, reduceCtorEq, eq_self, if_true, if_false, Nat.zero_add, Nat.reduceAdd, Nat.reduceEqDiff, Int.natCast_nonneg, List.drop_zero, or_true, true_or, or_false, false_or, Bool.not_true, Bool.not_false, Bool.false_eq_true, decide_eq_true_eq, ge_iff_le, gt_iff_lt, (show ¬ (k : Int) < 0 by omega), (show ¬ (0 : Int) < 0 by omega), (show ¬ (9223372036854775807 : Int) < (k : Int) by omega), J1000037_2, hw3, (show (k : Int) ≤ 1073741824 by omega)]
    rfl
  case g2 =>
    refine while_overQ (fun (_ : Unit) => [Tree.sl 1 (List.replicate k [tI (-1)])]) (fun (j : Nat) => (([.t (tI j)], [.row false 0 1 (List.replicate j [tI (-1)] ++ List.replicate (k - j) [tI 0])]) : List AV × Heap)) (dblStep k) (fun j => j ≤ k ∧ (0 < j ∨ k = 0)) (fun j => k - j) (fun _ => ()) (min 1 k) ?_ ⟨by omega, by omega⟩ rfl
      (fun j hI => Ev.of fun n again => ?_) (fun j j' hI hs => ?_) (fun j hI => ?_)
    · by_cases h0 : k = 0
      · subst h0; simp [rowSet]
      · obtain ⟨m, rfl⟩ : ∃ m, k = m + 1 := ⟨k - 1, by omega⟩
        have : min 1 (m + 1) = 1 := by omega
        rw [this]
        simp [rowSet, List.replicate_succ]
    · obtain ⟨h1, h2⟩ := hI
      have hlen : (List.replicate j [tI (-1)] ++ List.replicate (k - j) [tI 0]).length = k := by simp; omega
      have htk : List.take j (List.replicate j [tI (-1)] ++ List.replicate (k - j) [tI 0]) = List.replicate j [tI (-1)] := by
        rw [List.take_append_of_le_length (by simp)]; simp
      unfold dblStep
      by_cases hj : j < k
      · rw [if_pos hj]
        have hrow : rowSet (List.replicate j [tI (-1)] ++ List.replicate (k - j) [tI 0]) j (List.take (k - j) (List.replicate j [tI (-1)])) = List.replicate (min (2 * j) k) [tI (-1)] ++ List.replicate (k - min (2 * j) k) [tI 0] := by
          unfold rowSet
          rw [htk, List.take_replicate, List.length_replicate, List.drop_append, List.drop_eq_nil_of_le (by simp), List.nil_append, List.length_replicate, List.drop_replicate, List.replicate_append_replicate]
          congr 2 <;> omega
        have hmin : w64 ((j : Int) + ((min j (k - j) : Nat) : Int)) = ((min (2 * j) k : Nat) : Int) := by rw [w64_id (by omega) (by omega)]; omega
        simp only [L1000037_1, vI_mk, vB_mk, vS_mk, vL_mk, sVer_mk, sOff_mk, sLen_mk, oVer_mk, oEs_mk, cI_mk, cB_mk, cS_mk, cL_mk, cVer_mk, cOff_mk, cLen_mk, gI_zero, gI_succ, gB_zero, gB_succ, gS_zero, gS_succ, gL_zero, gL_succ, okI_zero, okI_succ, okB_zero, okB_succ, okS_zero, okS_succ, okL_zero, okL_succ, isIntT_int, isBoolT_bool, isStrT_str, isSlT_sl, intOf_int, boolOf_bool, strOf_str, slOf_sl, treeOf_t, srVer_sref, srOff_sref, srLen_sref, ver_row, esOf_row, cellOf_box, aI_mk, aB_mk, aS_mk, aL_mk, aggOf_agg, join_eq, List.getD_cons_zero, List.getD_cons_succ, decide_true, decide_false, cnd_true, cnd_false, true_and, and_true, false_and, and_false, Option.bind_some, Option.bind_none, List.length_cons, List.length_nil, List.length_map, List.getElem?_map, Option.map_some, Option.map_none, Int.toNat_natCast, reduceCtorEq, eq_self, if_true, if_false, Nat.zero_add, Nat.reduceAdd, Nat.reduceEqDiff, Int.natCast_nonneg, List.drop_zero, or_true, true_or, or_false, false_or, Bool.not_true, Bool.not_false, Bool.false_eq_true, decide_eq_true_eq, ge_iff_le, gt_iff_lt, hw3, (show (j : Int) < (k : Int) by omega), (show (j : Int) ≤ (k : Int) by omega), hlen, hj, (show 0 < k by omega), htk, List.length_replicate, hmin, hrow, Rd.go_next]
      · rw [if_neg hj]
        have : j = k := by omega
        subst this
        have htk2 : List.take j (List.replicate j [tI (-1)] ++ List.replicate (j - j) [tI 0]) = List.replicate j [tI (-1)] := htk
        simp only [L1000037_1, vI_mk, vB_mk, vS_mk, vL_mk, sVer_mk, sOff_mk, sLen_mk, oVer_mk, oEs_mk, cI_mk, cB_mk, cS_mk, cL_mk, cVer_mk, cOff_mk, cLen_mk, gI_zero, gI_succ, gB_zero, gB_succ, gS_zero, gS_succ, gL_zero, gL_succ, okI_zero, okI_succ, okB_zero, okB_succ, okS_zero, okS_succ, okL_zero, okL_succ, isIntT_int, isBoolT_bool, isStrT_str, isSlT_sl, intOf_int, boolOf_bool, strOf_str, slOf_sl, treeOf_t, srVer_sref, srOff_sref, srLen_sref, ver_row, esOf_row, cellOf_box, aI_mk, aB_mk, aS_mk, aL_mk, aggOf_agg, join_eq, List.getD_cons_zero, List.getD_cons_succ, decide_true, decide_false, cnd_true, cnd_false, true_and, and_true, false_and, and_false, Option.bind_some, Option.bind_none, List.length_cons, List.length_nil, List.length_map, List.getElem?_map, Option.map_some, Option.map_none, Int.toNat_natCast, reduceCtorEq, eq_self, if_true, if_false, Nat.zero_add, Nat.reduceAdd, Nat.reduceEqDiff, Int.natCast_nonneg, List.drop_zero, or_true, true_or, or_false, false_or, Bool.not_true, Bool.not_false, Bool.false_eq_true, decide_eq_true_eq, ge_iff_le, gt_iff_lt, hw3, Int.lt_irrefl, htk2, Rd.go_done]
    · unfold dblStep at hs
      split at hs
      · simp only [Rd.next.injEq] at hs
        subst hs
        refine ⟨⟨by omega, by omega⟩, by omega⟩
      · cases hs
    · unfold dblStep
      split <;> rfl
end Ab

set_option linter.unusedVariables false
set_option linter.unusedSimpArgs false
namespace Ab
open Go


/-! ### the model -/
structure QS where
  co : List Arr
  wait : List Entry
  now : Entry
  fin : Int
  busy : Bool
  out : List Int
def timeQ (s : QS) : Option Int := match s.busy, s.co with
  | true, [] => some s.fin
  | true, a :: _ => some (if a.at_ < s.fin then a.at_ else s.fin)
  | false, a :: _ => some a.at_
  | false, [] => none
def markQ (l : List Arr) (k t : Int) (o : List Int) : List Int := List.zipWith (fun a x => if a.e.ticket = k then t else x) l o
def endQ (l : List Arr) (t : Int) (s : QS) : QS := if s.busy = true ∧ t = s.fin then { s with busy := false, out := markQ l s.now.ticket t s.out } else s
def takeQ (t : Int) (s : QS) : QS := { s with wait := (s.co.takeWhile fun a => decide (a.at_ = t)).foldl (fun w a => insQ a.e w) s.wait, co := s.co.dropWhile fun a => decide (a.at_ = t) }
def expQ (t : Int) (s : QS) : QS := { s with wait := freshQ s.wait t }
def pre (x y : Entry) : Prop := x.prio = 2 ∧ y.prio < 2
instance (x y : Entry) : Decidable (pre x y) := inferInstanceAs (Decidable (_ ∧ _))
def preQ (t : Int) (s : QS) : QS := match s.wait with
  | x :: _ => if s.busy = true ∧ pre x s.now then { s with busy := false, wait := freshQ (insQ s.now s.wait) t } else s
  | [] => s
def durQ (rate : Int) (x : Entry) : Int := (x.size + rate - 1) / rate
def begQ (rate t : Int) (s : QS) : QS := if s.busy = true then s else match s.wait with
  | [] => s
  | x :: r => { s with now := x, wait := r, busy := true, fin := t + durQ rate x }
def stepQ (l : List Arr) (rate t : Int) (s : QS) : QS := begQ rate t (preQ t (expQ t (takeQ t (endQ l t s))))
def roundQ (l : List Arr) (rate : Int) (s : QS) : Rd QS (List Int) := match timeQ s with
  | none => .done s.out
  | some t => .next (stepQ l rate t s)
def muQ (s : QS) : Nat := 2 * s.co.length + s.wait.length + s.busy.toNat
def startQ (l : List Arr) : QS := ⟨l, [], zeroE, 0, false, List.replicate l.length (-1)⟩
theorem insF_length (w : List Entry) : ∀ (c : List Arr), (c.foldl (fun w a => insQ a.e w) w).length = w.length + c.length := by
  intro c
  induction c generalizing w with
  | nil => rfl
  | cons a c ih => rw [List.foldl_cons, ih]; simp [insQ, insB_len]; omega
theorem tw_dw_len {α : Type} (p : α → Bool) (l : List α) : (l.takeWhile p).length + (l.dropWhile p).length = l.length := by
  conv => rhs; rw [← List.takeWhile_append_dropWhile (p := p) (l := l)]
  rw [List.length_append]
theorem fresh_len (l : List Entry) (t : Int) : (freshQ l t).length ≤ l.length := List.length_filter_le _ _
theorem mu_beg (rate t : Int) (s : QS) : muQ (begQ rate t s) = muQ s := by
  unfold begQ
  split
  · rfl
  · rename_i hb
    split
    · rfl
    · rename_i x r hw
      simp [muQ, hb, hw]
      omega
theorem mu_pre (t : Int) (s : QS) : muQ (preQ t s) ≤ muQ s := by
  unfold preQ
  split
  · rename_i x r hw
    split
    · rename_i h
      have := fresh_len (insQ s.now s.wait) t
      rw [show (insQ s.now s.wait).length = s.wait.length + 1 from insB_len _ _ _] at this
      simp [muQ, h.1]
      omega
    · omega
  · omega
theorem mu_exp (t : Int) (s : QS) : muQ (expQ t s) ≤ muQ s := by
  have := fresh_len s.wait t
  simp only [muQ, expQ]
  omega
theorem mu_take (t : Int) (s : QS) : muQ (takeQ t s) + (s.co.takeWhile fun a => decide (a.at_ = t)).length = muQ s := by
  have := tw_dw_len (fun a : Arr => decide (a.at_ = t)) s.co
  simp only [muQ, takeQ, insF_length]
  omega
theorem mu_end (l : List Arr) (t : Int) (s : QS) : muQ (endQ l t s) + (if s.busy = true ∧ t = s.fin then 1 else 0) = muQ s := by
  unfold endQ
  split
  · rename_i h
    simp [muQ, h.1]
  · rfl
theorem mu_step {l : List Arr} {rate t : Int} {s : QS} (ht : timeQ s = some t) : muQ (stepQ l rate t s) < muQ s := by
  have h1 := mu_beg rate t (preQ t (expQ t (takeQ t (endQ l t s))))
  have h2 := mu_pre t (expQ t (takeQ t (endQ l t s)))
  have h3 := mu_exp t (takeQ t (endQ l t s))
  have h4 := mu_take t (endQ l t s)
  have h5 := mu_end l t s
  have hco : (endQ l t s).co = s.co := by unfold endQ; split <;> rfl
  unfold stepQ
  by_cases hd : s.busy = true ∧ t = s.fin
  · rw [if_pos hd] at h5
    omega
  · have : 0 < ((endQ l t s).co.takeWhile fun a => decide (a.at_ = t)).length := by
      rw [hco]
      unfold timeQ at ht
      split at ht
      · rename_i hb hc
        cases ht
        exact absurd ⟨hb, rfl⟩ hd
      · rename_i a r hb hc
        cases ht
        rw [hc]
        split
        · simp [List.takeWhile_cons]
        · rename_i hlt
          exact absurd ⟨hb, by rw [if_neg hlt]⟩ hd
      · rename_i a r hb hc
        cases ht
        rw [hc]
        simp [List.takeWhile_cons]
      · cases ht
    omega
/-- Steps counted. -/
def itN {σ Q : Type} (step : σ → Rd σ Q) (d : σ → Q) : Nat → σ → Q
  | 0, s => d s
  | k + 1, s => match step s with
    | .next s' => itN step d k s'
    | .done r => r
theorem itN_stable {σ Q : Type} {step : σ → Rd σ Q} {d : σ → Q} {μ : σ → Nat} (hd : ∀ s s', step s = .next s' → μ s' < μ s) : ∀ (k m : Nat) (s : σ), μ s < k → μ s < m → itN step d k s = itN step d m s
  | 0, _, _, h, _ => absurd h (by omega)
  | _, 0, _, _, h => absurd h (by omega)
  | k + 1, m + 1, s, h1, h2 => by
    unfold itN
    split
    · rename_i s' hs
      have := hd s s' hs
      exact itN_stable hd k m s' (by omega) (by omega)
    · rfl
def runQ (l : List Arr) (rate : Int) (s : QS) : List Int := itN (roundQ l rate) (fun s => s.out) (muQ s + 1) s
theorem round_mu {l : List Arr} {rate : Int} {s s' : QS} (h : roundQ l rate s = .next s') : muQ s' < muQ s := by
  unfold roundQ at h
  split at h
  · cases h
  · rename_i t ht
    cases h
    exact mu_step ht
theorem runQ_eq (l : List Arr) (rate : Int) (s : QS) : runQ l rate s = (roundQ l rate s).fin (runQ l rate) := by
  unfold runQ
  rw [itN]
  cases h : roundQ l rate s with
  | next s' => exact itN_stable (fun _ _ => round_mu) _ _ _ (round_mu h) (by omega)
  | done r => rfl
def serveQ (l : List Arr) (rate : Int) : List Int := runQ l rate (startQ l)

/-! ### what holds in every round -/
structure QInv (l : List Arr) (s : QS) : Prop where
  co : s.co = l.drop (l.length - s.co.length)
  out : s.out.length = l.length
  wl : s.wait.length + s.busy.toNat + s.co.length ≤ l.length
  wv : ∀ x ∈ s.wait, ValidE x
  nv : s.busy = true → ValidE s.now
  fin : s.busy = true → 0 ≤ s.fin ∧ s.fin + 65536 * (muQ s : Int) ≤ 1099520016384
theorem QInv.mu {l : List Arr} {s : QS} (h : QInv l s) (hl : l.length ≤ 64) : muQ s ≤ 128 := by
  have := h.wl
  have hc : s.co.length ≤ l.length := by omega
  unfold muQ
  omega
theorem dur_bd {rate : Int} (hr : 1 ≤ rate ∧ rate ≤ 1000) {x : Entry} (hx : ValidE x) : 1 ≤ durQ rate x ∧ durQ rate x ≤ 65536 ∧ Int.tdiv (x.size + rate - 1) rate = durQ rate x := by
  unfold ValidE at hx
  unfold durQ
  refine ⟨?_, ?_, Int.tdiv_eq_ediv_of_nonneg (by omega)⟩
  · rw [Int.le_ediv_iff_mul_le (by omega)]
    omega
  · have : (x.size + rate - 1) / rate < 65537 := by
      rw [Int.ediv_lt_iff_lt_mul (by omega)]
      have : x.size * 1 ≤ x.size * rate := Int.mul_le_mul_of_nonneg_left hr.1 (by omega)
      have h2 : 65537 * rate = 65536 * rate + rate := by omega
      have h3 : 65536 * 1 ≤ 65536 * rate := Int.mul_le_mul_of_nonneg_left hr.1 (by omega)
      omega
    omega
theorem timeQ_bd {l : List Arr} (hg : GoodA l) {s : QS} (h : QInv l s) {t : Int} (ht : timeQ s = some t) : 0 ≤ t ∧ (t ≤ 1099511627776 ∨ s.busy = true ∧ t ≤ s.fin) := by
  have hco : ∀ a ∈ s.co, 0 ≤ a.at_ ∧ a.at_ ≤ 1099511627776 := fun a ha => by
    rw [h.co] at ha
    exact (hg.val a (List.mem_of_mem_drop ha)).1
  unfold timeQ at ht
  split at ht
  · rename_i hb hc
    cases ht
    exact ⟨(h.fin hb).1, .inr ⟨hb, Int.le_refl _⟩⟩
  · rename_i a r hb hc
    cases ht
    have := hco a (by rw [hc]; simp)
    have := h.fin hb
    split
    · omega
    · exact ⟨by omega, .inr ⟨hb, Int.le_refl _⟩⟩
  · rename_i a r hb hc
    cases ht
    have := hco a (by rw [hc]; simp)
    omega
  · cases ht
theorem drop_suffix {α : Type} {l r s : List α} (h : r = l.drop (l.length - r.length)) (hs : s <:+ r) : s = l.drop (l.length - s.length) := by
  have hr : r <:+ l := by rw [h]; exact List.drop_suffix _ _
  have := hs.trans hr
  exact List.suffix_iff_eq_drop.1 this
theorem insF_mem (w : List Entry) (x : Entry) : ∀ (c : List Arr), x ∈ c.foldl (fun w a => insQ a.e w) w ↔ x ∈ w ∨ ∃ a ∈ c, x = a.e := by
  intro c
  induction c generalizing w with
  | nil => simp
  | cons a c ih =>
    rw [List.foldl_cons, ih, insQ, insB_mem]
    simp only [List.mem_cons, exists_eq_or_imp]
    constructor
    · rintro ((h | h) | h)
      · exact .inr (.inl h)
      · exact .inl h
      · exact .inr (.inr h)
    · rintro (h | h | h)
      · exact .inl (.inr h)
      · exact .inl (.inl h)
      · exact .inr h
theorem markQ_len {l : List Arr} {k t : Int} {o : List Int} (h : o.length = l.length) : (markQ l k t o).length = l.length := by
  simp [markQ, h]
/-- What the parts of a round keep. -/
structure QMid (l : List Arr) (s : QS) : Prop where
  co : s.co = l.drop (l.length - s.co.length)
  out : s.out.length = l.length
  wl : s.wait.length + s.busy.toNat + s.co.length ≤ l.length
  wv : ∀ x ∈ s.wait, ValidE x
  nv : s.busy = true → ValidE s.now
theorem QMid.end {l : List Arr} {s : QS} (h : QMid l s) (t : Int) : QMid l (endQ l t s) := by
  unfold endQ
  split
  · rename_i hb
    refine ⟨h.co, markQ_len h.out, ?_, h.wv, fun h => by cases h⟩
    have := h.wl
    simp only [hb.1, Bool.toNat_true] at this
    simp only [Bool.toNat_false]
    omega
  · exact h
theorem QMid.take {l : List Arr} (hg : GoodA l) {s : QS} (h : QMid l s) (t : Int) : QMid l (takeQ t s) := by
  have hl := tw_dw_len (fun a : Arr => decide (a.at_ = t)) s.co
  refine ⟨drop_suffix h.co (List.dropWhile_suffix _), h.out, ?_, fun x hx => ?_, h.nv⟩
  · have := h.wl
    simp only [takeQ, insF_length]
    omega
  · rcases (insF_mem _ _ _).1 hx with hx | ⟨a, ha, rfl⟩
    · exact h.wv x hx
    · have : a ∈ s.co := (List.takeWhile_sublist _).subset ha
      rw [h.co] at this
      exact (hg.val a (List.mem_of_mem_drop this)).2
theorem QMid.exp {l : List Arr} {s : QS} (h : QMid l s) (t : Int) : QMid l (expQ t s) := by
  refine ⟨h.co, h.out, ?_, fun x hx => h.wv x ((List.mem_filter.1 hx).1), h.nv⟩
  have := h.wl
  have := fresh_len s.wait t
  simp only [expQ]
  omega
theorem QMid.pre {l : List Arr} {s : QS} (h : QMid l s) (t : Int) : QMid l (preQ t s) := by
  unfold preQ
  split
  · split
    · rename_i hb
      refine ⟨h.co, h.out, ?_, fun x hx => ?_, fun h => by cases h⟩
      · have := h.wl
        have := fresh_len (insQ s.now s.wait) t
        rw [show (insQ s.now s.wait).length = s.wait.length + 1 from insB_len _ _ _] at this
        simp only [hb.1, Bool.toNat_true, Bool.toNat_false] at *
        omega
      · have := (List.mem_filter.1 hx).1
        rcases (insB_mem _ _ _ _).1 this with rfl | hx
        · exact h.nv hb.1
        · exact h.wv x hx
    · exact h
  · exact h
theorem QMid.beg {l : List Arr} {s : QS} (h : QMid l s) (rate t : Int) : QMid l (begQ rate t s) := by
  unfold begQ
  split
  · exact h
  · rename_i hb
    split
    · exact h
    · rename_i x r hw
      refine ⟨h.co, h.out, ?_, fun y hy => h.wv y (by rw [hw]; simp [hy]), fun _ => h.wv x (by rw [hw]; simp)⟩
      have := h.wl
      simp [hb, hw] at this
      simp
      omega
theorem QInv.mid {l : List Arr} {s : QS} (h : QInv l s) : QMid l s := ⟨h.co, h.out, h.wl, h.wv, h.nv⟩
theorem QInv.step {l : List Arr} (hg : GoodA l) {rate : Int} (hr : 1 ≤ rate ∧ rate ≤ 1000) {s : QS} (h : QInv l s) {t : Int} (ht : timeQ s = some t) : QInv l (stepQ l rate t s) := by
  have h4 := (((h.mid.end t).take hg t).exp t).pre t
  have h5 := h4.beg rate t
  refine ⟨h5.co, h5.out, h5.wl, h5.wv, h5.nv, fun hb => ?_⟩
  have hmu := mu_step (l := l) (rate := rate) ht
  have htb := timeQ_bd hg h ht
  have hm := h.mu hg.len
  -- the end of what is being sent
  have hcase : (stepQ l rate t s).fin = s.fin ∧ s.busy = true ∨ ∃ x, ValidE x ∧ (stepQ l rate t s).fin = t + durQ rate x := by
    have hb2 : (begQ rate t (preQ t (expQ t (takeQ t (endQ l t s))))).busy = true := hb
    unfold stepQ
    generalize hz : preQ t (expQ t (takeQ t (endQ l t s))) = z at *
    unfold begQ
    by_cases hzb : z.busy = true
    · rw [if_pos hzb]
      left
      rw [← hz] at hzb ⊢
      unfold preQ at hzb ⊢
      split at hzb
      · split at hzb
        · cases hzb
        · rename_i hn
          rw [if_neg hn]
          unfold expQ takeQ endQ at hzb ⊢
          simp only at hzb ⊢
          split at hzb
          · cases hzb
          · rename_i hn2
            rw [if_neg hn2]
            exact ⟨rfl, hzb⟩
      · unfold expQ takeQ endQ at hzb ⊢
        simp only at hzb ⊢
        split at hzb
        · cases hzb
        · rename_i hn2
          rw [if_neg hn2]
          exact ⟨rfl, hzb⟩
    · rw [if_neg hzb]
      unfold begQ at hb2
      rw [if_neg hzb] at hb2
      split
      · rename_i hw
        rw [hw] at hb2
        exact absurd hb2 hzb
      · rename_i x r hw
        exact .inr ⟨x, h4.wv x (by rw [hw]; simp), rfl⟩
  rcases hcase with ⟨hf, hsb⟩ | ⟨x, hx, hf⟩
  · have := h.fin hsb
    rw [hf]
    omega
  · have hd := dur_bd hr hx
    rw [hf]
    rcases htb.2 with h1 | ⟨hsb, h1⟩
    · omega
    · have := h.fin hsb
      omega
theorem QInv.start {l : List Arr} : QInv l (startQ l) := ⟨by simp [startQ], by simp [startQ], by simp [startQ], by simp [startQ], fun h => by simp [startQ] at h, fun h => by simp [startQ] at h⟩
end Ab

set_option linter.unusedVariables false
set_option linter.unusedSimpArgs false
set_option maxHeartbeats 1000000
namespace Ab
open Go


def bxE (x : Entry) : AObj := .box [.t (tI x.ticket), .t (tI x.prio), .t (tI x.exp), .t (tI x.size)]
def hpR (l : List Arr) (o : List Int) (x : Entry) : Heap := [.row false l.length 1 (o.map encI), bxE x]
def stR (l : List Arr) (s : QS) : List AV × Heap := ([.t (.bool s.busy), .t (.sl 4 (s.wait.map Entry.enc)), .t (tI ((l.length - s.co.length : Nat) : Int)), .t (tI s.fin)], hpR l s.out s.now)
theorem r1 (l : List Arr) {rate : Int} (hr : 1 ≤ rate ∧ rate ≤ 1000) {t : Int} (ht : 0 ≤ t ∧ t ≤ 1099520016384) (s : QS) (hs : QMid l s) (p7 p14 p27 : List AV × Heap) (h1 : vI p27 1 = ((l.length - s.co.length : Nat) : Int)) (h2 : vI p14 0 = t) (h3 : vI p7 3 = s.fin) (n : Nat) (z : List AV × Heap → Option (List Tree)) :
    J14_3 n rate z p27 p14 p7 ([.t (.sl 4 (s.wait.map Entry.enc)), .t (.bool s.busy)], hpR l s.out s.now) = z (stR l (begQ rate t s)) := by
  unfold begQ stR hpR bxE
  obtain ⟨co, wait, now, fin, busy, out⟩ := s
  cases busy with
  | true => simp only [J14_3, J14_2, vI_mk, vB_mk, vS_mk, vL_mk, sVer_mk, sOff_mk, sLen_mk, oVer_mk, oEs_mk, cI_mk, cB_mk, cS_mk, cL_mk, cVer_mk, cOff_mk, cLen_mk, gI_zero, gI_succ, gB_zero, gB_succ, gS_zero, gS_succ, gL_zero, gL_succ, okI_zero, okI_succ, okB_zero, okB_succ, okS_zero, okS_succ, okL_zero, okL_succ, isIntT_int, isBoolT_bool, isStrT_str, isSlT_sl, intOf_int, boolOf_bool, strOf_str, slOf_sl, treeOf_t, srVer_sref, srOff_sref, srLen_sref, ver_row, esOf_row, cellOf_box, aI_mk, aB_mk, aS_mk, aL_mk, aggOf_agg, join_eq, List.getD_cons_zero, List.getD_cons_succ, decide_true, decide_false, cnd_true, cnd_false, true_and, and_true, false_and, and_false, Option.bind_some, Option.bind_none, List.length_cons, List.length_nil, List.length_map, List.getElem?_map, Option.map_some, Option.map_none, Int.toNat_natCast, reduceCtorEq, eq_self, if_true, if_false, Nat.zero_add, Nat.reduceAdd, Nat.reduceEqDiff, Int.natCast_nonneg, List.drop_zero, or_true, true_or, or_false, false_or, Bool.not_true, Bool.not_false, Bool.false_eq_true, decide_eq_true_eq, ge_iff_le, gt_iff_lt, h1, h2, h3, hpR, bxE]
  | false =>
    cases wait with
    | nil => simp only [J14_3, J14_2, vI_mk, vB_mk, vS_mk, vL_mk, sVer_mk, sOff_mk, sLen_mk, oVer_mk, oEs_mk, cI_mk, cB_mk, cS_mk, cL_mk, cVer_mk, cOff_mk, cLen_mk, gI_zero, gI_succ, gB_zero, gB_succ, gS_zero, gS_succ, gL_zero, gL_succ, okI_zero, okI_succ, okB_zero, okB_succ, okS_zero, okS_succ, okL_zero, okL_succ, isIntT_int, isBoolT_bool, isStrT_str, isSlT_sl, intOf_int, boolOf_bool, strOf_str, slOf_sl, treeOf_t, srVer_sref, srOff_sref, srLen_sref, ver_row, esOf_row, cellOf_box, aI_mk, aB_mk, aS_mk, aL_mk, aggOf_agg, join_eq, List.getD_cons_zero, List.getD_cons_succ, decide_true, decide_false, cnd_true, cnd_false, true_and, and_true, false_and, and_false, Option.bind_some, Option.bind_none, List.length_cons, List.length_nil, List.length_map, List.getElem?_map, Option.map_some, Option.map_none, Int.toNat_natCast, reduceCtorEq, eq_self, if_true, if_false, Nat.zero_add, Nat.reduceAdd, Nat.reduceEqDiff, Int.natCast_nonneg, List.drop_zero, or_true, true_or, or_false, false_or, Bool.not_true, Bool.not_false, Bool.false_eq_true, decide_eq_true_eq, ge_iff_le, gt_iff_lt, h1, h2, h3, List.map_nil, Int.natCast_zero, Int.lt_irrefl]
    | cons x r =>
      have hx : ValidE x := hs.wv x (by simp)
      obtain ⟨d1, d2, d3⟩ := dur_bd hr hx
      have hsz := hx
      unfold ValidE at hsz
      have w1 : w64 (x.size + rate) = x.size + rate := w64_id (by omega) (by omega)
      have w2 : w64 (x.size + rate - 1) = x.size + rate - 1 := w64_id (by omega) (by omega)
      have w3 : w64 (durQ rate x) = durQ rate x := w64_id (by omega) (by omega)
      have w4 : w64 (t + durQ rate x) = t + durQ rate x := w64_id (by omega) (by omega)
      have e1 : List.take r.length (List.map Entry.enc r) = List.map Entry.enc r := List.take_of_length_le (by simp)
      simp only [J14_3, J14_2, vI_mk, vB_mk, vS_mk, vL_mk, sVer_mk, sOff_mk, sLen_mk, oVer_mk, oEs_mk, cI_mk, cB_mk, cS_mk, cL_mk, cVer_mk, cOff_mk, cLen_mk, gI_zero, gI_succ, gB_zero, gB_succ, gS_zero, gS_succ, gL_zero, gL_succ, okI_zero, okI_succ, okB_zero, okB_succ, okS_zero, okS_succ, okL_zero, okL_succ, isIntT_int, isBoolT_bool, isStrT_str, isSlT_sl, intOf_int, boolOf_bool, strOf_str, slOf_sl, treeOf_t, srVer_sref, srOff_sref, srLen_sref, ver_row, esOf_row, cellOf_box, aI_mk, aB_mk, aS_mk, aL_mk, aggOf_agg, join_eq, List.getD_cons_zero, List.getD_cons_succ, decide_true, decide_false, cnd_true, cnd_false, true_and, and_true, false_and, and_false, Option.bind_some, Option.bind_none, List.length_cons, List.length_nil, List.length_map, List.getElem?_map, Option.map_some, Option.map_none, Int.toNat_natCast, reduceCtorEq, eq_self, if_true, if_false, Nat.zero_add, Nat.reduceAdd, Nat.reduceEqDiff, Int.natCast_nonneg, List.drop_zero, or_true, true_or, or_false, false_or, Bool.not_true, Bool.not_false, Bool.false_eq_true, decide_eq_true_eq, ge_iff_le, gt_iff_lt, h1, h2, h3, List.map_cons, List.getElem?_cons_zero, Entry.enc, (show (0 : Int) < ((r.length + 1 : Nat) : Int) by omega), (show (0 : Int) ≤ 1 by omega), (show (1 : Int) ≤ ((r.length + 1 : Nat) : Int) by omega), (show ¬ rate = 0 by omega), w1, w2, d3, w3, w4, List.take_succ_cons, List.drop_succ_cons, e1]
theorem r2 (l : List Arr) (hl : l.length ≤ 64) {rate : Int} (hr : 1 ≤ rate ∧ rate ≤ 1000) {t : Int} (ht : 0 ≤ t ∧ t ≤ 1099520016384) (s : QS) (hs : QMid l s) (p7 p14 p27 p19 : List AV × Heap) (a0 : List (List Tree)) (h1 : vI p27 1 = ((l.length - s.co.length : Nat) : Int)) (h2 : vI p14 0 = t) (h3 : vI p7 3 = s.fin) (h4 : vL p27 0 = s.wait.map Entry.enc) (h5 : vB p19 0 = s.busy) :
    Ev fun n => ∀ ag28 z, J14_5 n p27 a0 ag28 p14 rate z p7 p19 ([.t (.bool false)], hpR l s.out s.now) = z (stR l (begQ rate t (preQ t (expQ t s)))) := by
  have hwl := hs.wl
  have hfl := fresh_len s.wait t
  have hlw : s.wait.length ≤ 1000000 := by omega
  have hx := hs.exp t
  have hp := hx.pre t
  have n1 := r1 l hr ht (preQ t (expQ t s)) hp p7 p14 p27
  have hfin : (preQ t (expQ t s)).fin = s.fin := by
    unfold preQ
    split
    · split <;> rfl
    · rfl
  have hco : (preQ t (expQ t s)).co = s.co := by
    unfold preQ
    split
    · split <;> rfl
    · rfl
  rw [hfin, hco] at n1
  have n2 := n1 h1 h2 h3
  cases hf : freshQ s.wait t with
  | nil =>
    have hpre : preQ t (expQ t s) = expQ t s := by unfold preQ expQ; simp only [hf]
    rw [hpre] at n2 ⊢
    simp only [expQ, hf, List.map_nil, hpR, bxE] at n2
    refine (s42 s.wait t hlw).mono fun n h ag28 z => ?_
    rw [hf] at h
    cases hb : s.busy with
    | true =>
      rw [hb] at n2
      simp only [J14_5, J14_4, hpR, bxE, vI_mk, vB_mk, vS_mk, vL_mk, sVer_mk, sOff_mk, sLen_mk, oVer_mk, oEs_mk, cI_mk, cB_mk, cS_mk, cL_mk, cVer_mk, cOff_mk, cLen_mk, gI_zero, gI_succ, gB_zero, gB_succ, gS_zero, gS_succ, gL_zero, gL_succ, okI_zero, okI_succ, okB_zero, okB_succ, okS_zero, okS_succ, okL_zero, okL_succ, isIntT_int, isBoolT_bool, isStrT_str, isSlT_sl, intOf_int, boolOf_bool, strOf_str, slOf_sl, treeOf_t, srVer_sref, srOff_sref, srLen_sref, ver_row, esOf_row, cellOf_box, aI_mk, aB_mk, aS_mk, aL_mk, aggOf_agg, join_eq, List.getD_cons_zero, List.getD_cons_succ, decide_true, decide_false, cnd_true, cnd_false, true_and, and_true, false_and, and_false, Option.bind_some, Option.bind_none, List.length_cons, List.length_nil, List.length_map, List.getElem?_map, Option.map_some, Option.map_none, Int.toNat_natCast, reduceCtorEq, eq_self, if_true, if_false, Nat.zero_add, Nat.reduceAdd, Nat.reduceEqDiff, Int.natCast_nonneg, List.drop_zero, or_true, true_or, or_false, false_or, Bool.not_true, Bool.not_false, Bool.false_eq_true, decide_eq_true_eq, ge_iff_le, gt_iff_lt, h2, h4, h5, h, hb, List.map_nil, Int.natCast_zero, Int.lt_irrefl]
      simpa only [expQ, hf, hb] using n2 n z
    | false =>
      rw [hb] at n2
      simp only [J14_5, J14_4, hpR, bxE, vI_mk, vB_mk, vS_mk, vL_mk, sVer_mk, sOff_mk, sLen_mk, oVer_mk, oEs_mk, cI_mk, cB_mk, cS_mk, cL_mk, cVer_mk, cOff_mk, cLen_mk, gI_zero, gI_succ, gB_zero, gB_succ, gS_zero, gS_succ, gL_zero, gL_succ, okI_zero, okI_succ, okB_zero, okB_succ, okS_zero, okS_succ, okL_zero, okL_succ, isIntT_int, isBoolT_bool, isStrT_str, isSlT_sl, intOf_int, boolOf_bool, strOf_str, slOf_sl, treeOf_t, srVer_sref, srOff_sref, srLen_sref, ver_row, esOf_row, cellOf_box, aI_mk, aB_mk, aS_mk, aL_mk, aggOf_agg, join_eq, List.getD_cons_zero, List.getD_cons_succ, decide_true, decide_false, cnd_true, cnd_false, true_and, and_true, false_and, and_false, Option.bind_some, Option.bind_none, List.length_cons, List.length_nil, List.length_map, List.getElem?_map, Option.map_some, Option.map_none, Int.toNat_natCast, reduceCtorEq, eq_self, if_true, if_false, Nat.zero_add, Nat.reduceAdd, Nat.reduceEqDiff, Int.natCast_nonneg, List.drop_zero, or_true, true_or, or_false, false_or, Bool.not_true, Bool.not_false, Bool.false_eq_true, decide_eq_true_eq, ge_iff_le, gt_iff_lt, h2, h4, h5, h, hb, List.map_nil, Int.natCast_zero, Int.lt_irrefl]
      simpa only [expQ, hf, hb] using n2 n z
  | cons x r =>
    rw [hf] at hfl
    simp only [List.length_cons] at hfl
    by_cases hb : s.busy = true ∧ pre x s.now
    · have hpre : preQ t (expQ t s) = { expQ t s with busy := false, wait := freshQ (insQ s.now (x :: r)) t } := by
        unfold preQ expQ; simp only [hf]; rw [if_pos hb]
      rw [hpre] at n2 ⊢
      simp only [expQ, hpR, bxE] at n2
      have hil : (insQ s.now (x :: r)).length = r.length + 2 := by rw [insQ, insB_len]; rfl
      refine ((s42 s.wait t hlw).and ((s25 x s.now).and ((s41 (x :: r) s.now (by simp; omega)).and (s42 (insQ s.now (x :: r)) t (by omega))))).mono fun n h ag28 z => ?_
      obtain ⟨k1, k2, k3, k4⟩ := h
      rw [hf] at k1
      have hpd : decide (x.prio = 2 ∧ s.now.prio < 2) = true := decide_eq_true hb.2
      simp only [Entry.enc, List.cons_append, List.nil_append, List.map_cons, hpd] at k1 k2 k3
      simp only [J14_5, J14_4, hpR, bxE, vI_mk, vB_mk, vS_mk, vL_mk, sVer_mk, sOff_mk, sLen_mk, oVer_mk, oEs_mk, cI_mk, cB_mk, cS_mk, cL_mk, cVer_mk, cOff_mk, cLen_mk, gI_zero, gI_succ, gB_zero, gB_succ, gS_zero, gS_succ, gL_zero, gL_succ, okI_zero, okI_succ, okB_zero, okB_succ, okS_zero, okS_succ, okL_zero, okL_succ, isIntT_int, isBoolT_bool, isStrT_str, isSlT_sl, intOf_int, boolOf_bool, strOf_str, slOf_sl, treeOf_t, srVer_sref, srOff_sref, srLen_sref, ver_row, esOf_row, cellOf_box, aI_mk, aB_mk, aS_mk, aL_mk, aggOf_agg, join_eq, List.getD_cons_zero, List.getD_cons_succ, decide_true, decide_false, cnd_true, cnd_false, true_and, and_true, false_and, and_false, Option.bind_some, Option.bind_none, List.length_cons, List.length_nil, List.length_map, List.getElem?_map, Option.map_some, Option.map_none, Int.toNat_natCast, reduceCtorEq, eq_self, if_true, if_false, Nat.zero_add, Nat.reduceAdd, Nat.reduceEqDiff, Int.natCast_nonneg, List.drop_zero, or_true, true_or, or_false, false_or, Bool.not_true, Bool.not_false, Bool.false_eq_true, decide_eq_true_eq, ge_iff_le, gt_iff_lt, h2, h4, h5, k1, hb.1, (show (0 : Int) < ((r.length + 1 : Nat) : Int) by omega), List.getElem?_cons_zero, k2, k3, k4]
      exact n2 n z
    · have hpre : preQ t (expQ t s) = expQ t s := by unfold preQ expQ; simp only [hf]; rw [if_neg hb]
      rw [hpre] at n2 ⊢
      simp only [expQ, hf, hpR, bxE, List.map_cons, Entry.enc] at n2
      refine ((s42 s.wait t hlw).and (s25 x s.now)).mono fun n h ag28 z => ?_
      obtain ⟨k1, k2⟩ := h
      rw [hf] at k1
      cases hbb : s.busy with
      | true =>
        have hpd : decide (x.prio = 2 ∧ s.now.prio < 2) = false := decide_eq_false fun h => hb ⟨hbb, h⟩
        rw [hbb] at n2
        simp only [Entry.enc, List.cons_append, List.nil_append, List.map_cons, hpd] at k1 k2
        simp only [J14_5, J14_4, hpR, bxE, vI_mk, vB_mk, vS_mk, vL_mk, sVer_mk, sOff_mk, sLen_mk, oVer_mk, oEs_mk, cI_mk, cB_mk, cS_mk, cL_mk, cVer_mk, cOff_mk, cLen_mk, gI_zero, gI_succ, gB_zero, gB_succ, gS_zero, gS_succ, gL_zero, gL_succ, okI_zero, okI_succ, okB_zero, okB_succ, okS_zero, okS_succ, okL_zero, okL_succ, isIntT_int, isBoolT_bool, isStrT_str, isSlT_sl, intOf_int, boolOf_bool, strOf_str, slOf_sl, treeOf_t, srVer_sref, srOff_sref, srLen_sref, ver_row, esOf_row, cellOf_box, aI_mk, aB_mk, aS_mk, aL_mk, aggOf_agg, join_eq, List.getD_cons_zero, List.getD_cons_succ, decide_true, decide_false, cnd_true, cnd_false, true_and, and_true, false_and, and_false, Option.bind_some, Option.bind_none, List.length_cons, List.length_nil, List.length_map, List.getElem?_map, Option.map_some, Option.map_none, Int.toNat_natCast, reduceCtorEq, eq_self, if_true, if_false, Nat.zero_add, Nat.reduceAdd, Nat.reduceEqDiff, Int.natCast_nonneg, List.drop_zero, or_true, true_or, or_false, false_or, Bool.not_true, Bool.not_false, Bool.false_eq_true, decide_eq_true_eq, ge_iff_le, gt_iff_lt, h2, h4, h5, k1, hbb, (show (0 : Int) < ((r.length + 1 : Nat) : Int) by omega), List.getElem?_cons_zero, k2]
        simpa only [expQ, hf, hbb] using n2 n z
      | false =>
        rw [hbb] at n2
        simp only [Entry.enc, List.map_cons] at k1
        simp only [J14_5, J14_4, hpR, bxE, vI_mk, vB_mk, vS_mk, vL_mk, sVer_mk, sOff_mk, sLen_mk, oVer_mk, oEs_mk, cI_mk, cB_mk, cS_mk, cL_mk, cVer_mk, cOff_mk, cLen_mk, gI_zero, gI_succ, gB_zero, gB_succ, gS_zero, gS_succ, gL_zero, gL_succ, okI_zero, okI_succ, okB_zero, okB_succ, okS_zero, okS_succ, okL_zero, okL_succ, isIntT_int, isBoolT_bool, isStrT_str, isSlT_sl, intOf_int, boolOf_bool, strOf_str, slOf_sl, treeOf_t, srVer_sref, srOff_sref, srLen_sref, ver_row, esOf_row, cellOf_box, aI_mk, aB_mk, aS_mk, aL_mk, aggOf_agg, join_eq, List.getD_cons_zero, List.getD_cons_succ, decide_true, decide_false, cnd_true, cnd_false, true_and, and_true, false_and, and_false, Option.bind_some, Option.bind_none, List.length_cons, List.length_nil, List.length_map, List.getElem?_map, Option.map_some, Option.map_none, Int.toNat_natCast, reduceCtorEq, eq_self, if_true, if_false, Nat.zero_add, Nat.reduceAdd, Nat.reduceEqDiff, Int.natCast_nonneg, List.drop_zero, or_true, true_or, or_false, false_or, Bool.not_true, Bool.not_false, Bool.false_eq_true, decide_eq_true_eq, ge_iff_le, gt_iff_lt, h2, h4, h5, k1, hbb]
        simpa only [expQ, hf, hbb] using n2 n z
def tkStep (t : Int) (i : Nat) (w : List Entry) (a : Arr) : Rd (List Entry) (Nat × List Entry) := if a.at_ = t then .next (insQ a.e w) else .done (i, w)
theorem tk_run (t : Int) : ∀ (c : List Arr) (i : Nat) (w : List Entry), runL (tkStep t) (fun w => (i + c.length, w)) i c w = (i + (c.takeWhile fun a => decide (a.at_ = t)).length, (c.takeWhile fun a => decide (a.at_ = t)).foldl (fun w a => insQ a.e w) w)
  | [], i, w => rfl
  | a :: c, i, w => by
    unfold tkStep
    simp only [runL]
    by_cases h : a.at_ = t
    · rw [if_pos h]
      have ih := tk_run t c (i + 1) (insQ a.e w)
      unfold tkStep at ih
      simp only [List.takeWhile_cons, h, decide_true, if_true, List.length_cons, List.foldl_cons]
      rw [show i + (c.length + 1) = i + 1 + c.length by omega, ih]
      congr 1
      omega
    · rw [if_neg h]
      simp [List.takeWhile_cons, h]
theorem dw_drop {α : Type} (p : α → Bool) : ∀ (l : List α), l.dropWhile p = l.drop (l.takeWhile p).length
  | [] => rfl
  | x :: l => by
    rw [List.dropWhile_cons, List.takeWhile_cons]
    split
    · simp [dw_drop p l]
    · rfl
theorem r3 (l : List Arr) (hg : GoodA l) {rate : Int} (hr : 1 ≤ rate ∧ rate ≤ 1000) {t : Int} (ht : 0 ≤ t ∧ t ≤ 1099520016384) (s : QS) (hs : QMid l s) (p7 p14 p19 : List AV × Heap) (h1 : vI p7 2 = ((l.length - s.co.length : Nat) : Int)) (h2 : vI p14 0 = t) (h3 : vI p7 3 = s.fin) (h4 : vL p7 1 = s.wait.map Entry.enc) (h5 : vB p19 0 = s.busy) (h6 : p19.2 = hpR l s.out s.now) :
    Ev fun n => ∀ z, J14_7 n (l.map Arr.enc) p14 rate z p7 p19 = z (stR l (begQ rate t (preQ t (expQ t (takeQ t s))))) := by
  have hwl := hs.wl
  have hlen := hg.len
  have hcl : s.co.length ≤ l.length := by omega
  have hoV : oVer p19 0 = l.length := by unfold oVer; rw [h6]; rfl
  have hoE : oEs p19 0 = s.out.map encI := by unfold oEs; rw [h6]; rfl
  have hc0 : cI p19 1 0 = s.now.ticket := by unfold cI; rw [h6]; rfl
  have hc1 : cI p19 1 1 = s.now.prio := by unfold cI; rw [h6]; rfl
  have hc2 : cI p19 1 2 = s.now.exp := by unfold cI; rw [h6]; rfl
  have hc3 : cI p19 1 3 = s.now.size := by unfold cI; rw [h6]; rfl
  have htr := tk_run t s.co 0 s.wait
  simp only [Nat.zero_add] at htr
  have hstate : ∀ (k : Nat) (w : List Entry), k ≤ s.co.length → (∀ (x : Entry), x ∈ w → ValidE x) → w.length = s.wait.length + k →
      Ev fun n => ∀ ag28 z, J14_5 n ([.t (.sl 4 (w.map Entry.enc)), .t (tI ((l.length - s.co.length + k : Nat) : Int))], hpR l s.out s.now) (l.map Arr.enc) ag28 p14 rate z p7 p19 ([.t (.bool false)], hpR l s.out s.now) = z (stR l (begQ rate t (preQ t (expQ t { s with wait := w, co := s.co.drop k })))) := by
    intro k w hk hw hwlen
    refine r2 l hlen hr ht { s with wait := w, co := s.co.drop k } ⟨?_, hs.out, ?_, hw, hs.nv⟩ p7 p14 _ p19 (l.map Arr.enc) ?_ h2 h3 rfl h5
    · simp only
      exact drop_suffix hs.co (List.drop_suffix _ _)
    · simp only [List.length_drop]
      omega
    · show ((l.length - s.co.length + k : Nat) : Int) = ((l.length - (s.co.drop k).length : Nat) : Int)
      rw [List.length_drop]
      congr 1
      omega
  have key := loop_overZ (R := List Tree) (Z := List AV × Heap → Option (List Tree)) (B := fun n z p again => L14_6 n (l.map Arr.enc) p14 rate z p7 p19 p again)
    (s := (([.t (.sl 4 (s.wait.map Entry.enc)), .t (tI ((l.length - s.co.length : Nat) : Int))], hpR l s.out s.now) : List AV × Heap)) s.co
    (fun i (w : List Entry) => (([.t (.sl 4 (w.map Entry.enc)), .t (tI ((l.length - s.co.length + i : Nat) : Int))], hpR l s.out s.now) : List AV × Heap)) (tkStep t) (fun w => (s.co.length, w))
    (fun z (q : Nat × List Entry) => z (stR l (begQ rate t (preQ t (expQ t { s with wait := q.2, co := s.co.drop q.1 })))))
    (fun i w => (∀ x ∈ w, ValidE x) ∧ w.length = s.wait.length + i) s.wait rfl ⟨hs.wv, rfl⟩ htr
    (fun i w a ha hI => ?_) (fun i w a w' ha hI hw' => ?_) (fun w hI => ?_)
  · refine key.mono fun n h z => ?_
    simp only [hpR, bxE] at h
    simp only [J14_7, h1, h4, hoV, hoE, hc0, hc1, hc2, hc3]
    refine (h z).trans ?_
    unfold takeQ
    rw [dw_drop]
  · have hi := lt_of_some ha
    obtain ⟨i1, i2⟩ := hI
    have hla : l[l.length - s.co.length + i]? = some a := by
      have := ha
      rw [hs.co, List.getElem?_drop] at this
      exact this
    have hlt := lt_of_some hla
    unfold tkStep
    by_cases hat : a.at_ = t
    · rw [if_pos hat]
      refine (s41 w a.e (by omega)).mono fun n h z again => ?_
      simp only [Entry.enc] at h
      have hbe : (a.at_ == t) = true := by simpa using hat
      simp only [L14_6, J14_5, hpR, bxE, vI_mk, vB_mk, vS_mk, vL_mk, sVer_mk, sOff_mk, sLen_mk, oVer_mk, oEs_mk, cI_mk, cB_mk, cS_mk, cL_mk, cVer_mk, cOff_mk, cLen_mk, gI_zero, gI_succ, gB_zero, gB_succ, gS_zero, gS_succ, gL_zero, gL_succ, okI_zero, okI_succ, okB_zero, okB_succ, okS_zero, okS_succ, okL_zero, okL_succ, isIntT_int, isBoolT_bool, isStrT_str, isSlT_sl, intOf_int, boolOf_bool, strOf_str, slOf_sl, treeOf_t, srVer_sref, srOff_sref, srLen_sref, ver_row, esOf_row, cellOf_box, aI_mk, aB_mk, aS_mk, aL_mk, aggOf_agg, join_eq, List.getD_cons_zero, List.getD_cons_succ, decide_true, decide_false, cnd_true, cnd_false, true_and, and_true, false_and, and_false, Option.bind_some, Option.bind_none, List.length_cons, List.length_nil, List.length_map, List.getElem?_map, Option.map_some, Option.map_none, Int.toNat_natCast, reduceCtorEq, eq_self, if_true, if_false, Nat.zero_add, Nat.reduceAdd, Nat.reduceEqDiff, Int.natCast_nonneg, List.drop_zero, or_true, true_or, or_false, false_or, Bool.not_true, Bool.not_false, Bool.false_eq_true, decide_eq_true_eq, ge_iff_le, gt_iff_lt, (show ((l.length - s.co.length + i : Nat) : Int) < (l.length : Int) by omega), hla, Arr.enc, h2, hbe, h, Rd.go_next, w64_succ (show l.length - s.co.length + i < 4611686018427387904 by omega)]
      rw [show l.length - s.co.length + (i + 1) = l.length - s.co.length + i + 1 by omega]
    · rw [if_neg hat]
      refine (hstate i w (by omega) i1 i2).mono fun n h z again => ?_
      have hbe : (a.at_ == t) = false := by simpa using hat
      have h' := h again z
      simp only [hpR, bxE] at h'
      simp only [L14_6, hpR, bxE, vI_mk, vB_mk, vS_mk, vL_mk, sVer_mk, sOff_mk, sLen_mk, oVer_mk, oEs_mk, cI_mk, cB_mk, cS_mk, cL_mk, cVer_mk, cOff_mk, cLen_mk, gI_zero, gI_succ, gB_zero, gB_succ, gS_zero, gS_succ, gL_zero, gL_succ, okI_zero, okI_succ, okB_zero, okB_succ, okS_zero, okS_succ, okL_zero, okL_succ, isIntT_int, isBoolT_bool, isStrT_str, isSlT_sl, intOf_int, boolOf_bool, strOf_str, slOf_sl, treeOf_t, srVer_sref, srOff_sref, srLen_sref, ver_row, esOf_row, cellOf_box, aI_mk, aB_mk, aS_mk, aL_mk, aggOf_agg, join_eq, List.getD_cons_zero, List.getD_cons_succ, decide_true, decide_false, cnd_true, cnd_false, true_and, and_true, false_and, and_false, Option.bind_some, Option.bind_none, List.length_cons, List.length_nil, List.length_map, List.getElem?_map, Option.map_some, Option.map_none, Int.toNat_natCast, reduceCtorEq, eq_self, if_true, if_false, Nat.zero_add, Nat.reduceAdd, Nat.reduceEqDiff, Int.natCast_nonneg, List.drop_zero, or_true, true_or, or_false, false_or, Bool.not_true, Bool.not_false, Bool.false_eq_true, decide_eq_true_eq, ge_iff_le, gt_iff_lt, (show ((l.length - s.co.length + i : Nat) : Int) < (l.length : Int) by omega), hla, Arr.enc, h2, hbe, Rd.go_done]
      exact h'
  · have hi := lt_of_some ha
    obtain ⟨i1, i2⟩ := hI
    unfold tkStep at hw'
    split at hw'
    · simp only [Rd.next.injEq] at hw'
      subst hw'
      refine ⟨fun x hx => ?_, by rw [insQ, insB_len, i2]; rfl⟩
      rcases (insB_mem _ _ _ _).1 hx with rfl | hx
      · have : a ∈ s.co := List.mem_of_getElem? ha
        rw [hs.co] at this
        exact (hg.val a (List.mem_of_mem_drop this)).2
      · exact i1 x hx
    · cases hw'
  · obtain ⟨i1, i2⟩ := hI
    refine (hstate s.co.length w (Nat.le_refl _) i1 i2).mono fun n h z again => ?_
    have h' := h again z
    have e1 : l.length - s.co.length + s.co.length = l.length := by omega
    rw [e1] at h' ⊢
    simp only [hpR, bxE] at h'
    simp only [L14_6, hpR, bxE, vI_mk, vB_mk, vS_mk, vL_mk, sVer_mk, sOff_mk, sLen_mk, oVer_mk, oEs_mk, cI_mk, cB_mk, cS_mk, cL_mk, cVer_mk, cOff_mk, cLen_mk, gI_zero, gI_succ, gB_zero, gB_succ, gS_zero, gS_succ, gL_zero, gL_succ, okI_zero, okI_succ, okB_zero, okB_succ, okS_zero, okS_succ, okL_zero, okL_succ, isIntT_int, isBoolT_bool, isStrT_str, isSlT_sl, intOf_int, boolOf_bool, strOf_str, slOf_sl, treeOf_t, srVer_sref, srOff_sref, srLen_sref, ver_row, esOf_row, cellOf_box, aI_mk, aB_mk, aS_mk, aL_mk, aggOf_agg, join_eq, List.getD_cons_zero, List.getD_cons_succ, decide_true, decide_false, cnd_true, cnd_false, true_and, and_true, false_and, and_false, Option.bind_some, Option.bind_none, List.length_cons, List.length_nil, List.length_map, List.getElem?_map, Option.map_some, Option.map_none, Int.toNat_natCast, reduceCtorEq, eq_self, if_true, if_false, Nat.zero_add, Nat.reduceAdd, Nat.reduceEqDiff, Int.natCast_nonneg, List.drop_zero, or_true, true_or, or_false, false_or, Bool.not_true, Bool.not_false, Bool.false_eq_true, decide_eq_true_eq, ge_iff_le, gt_iff_lt, Int.lt_irrefl]
    exact h'
end Ab

set_option linter.unusedVariables false
set_option linter.unusedSimpArgs false
set_option maxHeartbeats 1000000
namespace Ab
open Go


theorem markQ_get {l : List Arr} {o : List Int} (ho : o.length = l.length) {k t : Int} {i : Nat} {a : Arr} {v : Int} (ha : l[i]? = some a) (hv : o[i]? = some v) : (markQ l k t o)[i]? = some (if a.e.ticket = k then t else v) := by
  unfold markQ
  rw [List.getElem?_zipWith, ha, hv]
theorem r4 (l : List Arr) (hl : l.length ≤ 64) (t : Int) (o : List Int) (ho : o.length = l.length) (x : Entry) (p5 p14 : List AV × Heap) (h1 : sVer p5 0 = l.length) (h2 : sOff p5 0 = 0) (h3 : sLen p5 0 = l.length) (h4 : vI p14 0 = t) :
    Ev fun n => ∀ z, loopIter (fun p again => L14_1 n (l.map Arr.enc) p5 p14 z p again) n ([.t (tI 0)], hpR l o x) = z ([.t (.bool false)], hpR l (markQ l x.ticket t o) x) := by
  have hml := markQ_len (k := x.ticket) (t := t) ho
  refine loop_overZ (R := List Tree) (Z := List AV × Heap → Option (List Tree)) (B := fun n z p again => L14_1 n (l.map Arr.enc) p5 p14 z p again) (r := ()) l
    (fun i (_ : Unit) => (([.t (tI i)], hpR l ((markQ l x.ticket t o).take i ++ o.drop i) x) : List AV × Heap)) (fun _ _ _ => .next ()) (fun _ => ())
    (fun z _ => z ([.t (.bool false)], hpR l (markQ l x.ticket t o) x)) (fun _ _ => True) () rfl trivial (runL_fold (fun _ _ => ()) (fun _ => ()) 0 _ ())
    (fun i s a ha hI => Ev.of fun n z again => ?_) (fun _ _ _ _ _ _ _ => trivial) (fun s hI => Ev.of fun n z again => ?_)
  · have hi := lt_of_some ha
    have hv : o[i]? = some o[i] := List.getElem?_eq_getElem (by omega)
    have hm := markQ_get (k := x.ticket) (t := t) ho ha hv
    have hd : o.drop i = o[i] :: o.drop (i + 1) := List.drop_eq_getElem_cons (by omega)
    have htl : ((markQ l x.ticket t o).take i).length = i := by simp; omega
    have ht : (markQ l x.ticket t o).take (i + 1) = (markQ l x.ticket t o).take i ++ [if a.e.ticket = x.ticket then t else o[i]] := by rw [List.take_add_one, hm]; rfl
    have hg : (((markQ l x.ticket t o).take i ++ o.drop i).map encI)[i]? = some [tI o[i]] := by
      rw [List.getElem?_map, List.getElem?_append_right (by omega), htl, Nat.sub_self, hd]
      rfl
    by_cases hk : a.e.ticket = x.ticket
    · have hbe : (a.e.ticket == x.ticket) = true := by simpa using hk
      have hset : List.set (((markQ l x.ticket t o).take i ++ o.drop i).map encI) i [tI t] = ((markQ l x.ticket t o).take (i + 1) ++ o.drop (i + 1)).map encI := by
        rw [show ([tI t] : List Tree) = encI t from rfl, ← List.map_set]
        congr 1
        rw [List.set_append_right _ _ (by omega), htl, Nat.sub_self, hd, ht, if_pos hk]
        simp only [List.set_cons_zero, List.append_assoc, List.cons_append, List.nil_append]
      simp only [List.getElem?_map] at hg
      simp only [L14_1, hpR, bxE, vI_mk, vB_mk, vS_mk, vL_mk, sVer_mk, sOff_mk, sLen_mk, oVer_mk, oEs_mk, cI_mk, cB_mk, cS_mk, cL_mk, cVer_mk, cOff_mk, cLen_mk, gI_zero, gI_succ, gB_zero, gB_succ, gS_zero, gS_succ, gL_zero, gL_succ, okI_zero, okI_succ, okB_zero, okB_succ, okS_zero, okS_succ, okL_zero, okL_succ, isIntT_int, isBoolT_bool, isStrT_str, isSlT_sl, intOf_int, boolOf_bool, strOf_str, slOf_sl, treeOf_t, srVer_sref, srOff_sref, srLen_sref, ver_row, esOf_row, cellOf_box, aI_mk, aB_mk, aS_mk, aL_mk, aggOf_agg, join_eq, List.getD_cons_zero, List.getD_cons_succ, decide_true, decide_false, cnd_true, cnd_false, true_and, and_true, false_and, and_false, Option.bind_some, Option.bind_none, List.length_cons, List.length_nil, List.length_map, List.getElem?_map, Option.map_some, Option.map_none, Int.toNat_natCast, reduceCtorEq, eq_self, if_true, if_false, Nat.zero_add, Nat.reduceAdd, Nat.reduceEqDiff, Int.natCast_nonneg, List.drop_zero, or_true, true_or, or_false, false_or, Bool.not_true, Bool.not_false, Bool.false_eq_true, decide_eq_true_eq, ge_iff_le, gt_iff_lt, h1, h2, h3, h4, ha, Arr.enc, (show (i : Int) < (l.length : Int) by omega), hbe, hg, Nat.le_refl, List.drop_succ_cons, List.append_nil, List.drop_nil, hset, w64_succ (show i < 4611686018427387904 by omega), Rd.go_next]
    · have hbe : (a.e.ticket == x.ticket) = false := by simpa using hk
      have hset : (markQ l x.ticket t o).take i ++ o.drop i = (markQ l x.ticket t o).take (i + 1) ++ o.drop (i + 1) := by
        rw [hd, ht, if_neg hk]
        simp
      simp only [L14_1, hpR, bxE, vI_mk, vB_mk, vS_mk, vL_mk, sVer_mk, sOff_mk, sLen_mk, oVer_mk, oEs_mk, cI_mk, cB_mk, cS_mk, cL_mk, cVer_mk, cOff_mk, cLen_mk, gI_zero, gI_succ, gB_zero, gB_succ, gS_zero, gS_succ, gL_zero, gL_succ, okI_zero, okI_succ, okB_zero, okB_succ, okS_zero, okS_succ, okL_zero, okL_succ, isIntT_int, isBoolT_bool, isStrT_str, isSlT_sl, intOf_int, boolOf_bool, strOf_str, slOf_sl, treeOf_t, srVer_sref, srOff_sref, srLen_sref, ver_row, esOf_row, cellOf_box, aI_mk, aB_mk, aS_mk, aL_mk, aggOf_agg, join_eq, List.getD_cons_zero, List.getD_cons_succ, decide_true, decide_false, cnd_true, cnd_false, true_and, and_true, false_and, and_false, Option.bind_some, Option.bind_none, List.length_cons, List.length_nil, List.length_map, List.getElem?_map, Option.map_some, Option.map_none, Int.toNat_natCast, reduceCtorEq, eq_self, if_true, if_false, Nat.zero_add, Nat.reduceAdd, Nat.reduceEqDiff, Int.natCast_nonneg, List.drop_zero, or_true, true_or, or_false, false_or, Bool.not_true, Bool.not_false, Bool.false_eq_true, decide_eq_true_eq, ge_iff_le, gt_iff_lt, h1, h2, h3, h4, ha, Arr.enc, (show (i : Int) < (l.length : Int) by omega), hbe, hset, w64_succ (show i < 4611686018427387904 by omega), Rd.go_next]
  · have e1 : (markQ l x.ticket t o).take l.length ++ o.drop l.length = markQ l x.ticket t o := by
      rw [List.take_of_length_le (by omega), List.drop_eq_nil_of_le (by omega), List.append_nil]
    rw [e1]
    simp only [L14_1, hpR, bxE, vI_mk, vB_mk, vS_mk, vL_mk, sVer_mk, sOff_mk, sLen_mk, oVer_mk, oEs_mk, cI_mk, cB_mk, cS_mk, cL_mk, cVer_mk, cOff_mk, cLen_mk, gI_zero, gI_succ, gB_zero, gB_succ, gS_zero, gS_succ, gL_zero, gL_succ, okI_zero, okI_succ, okB_zero, okB_succ, okS_zero, okS_succ, okL_zero, okL_succ, isIntT_int, isBoolT_bool, isStrT_str, isSlT_sl, intOf_int, boolOf_bool, strOf_str, slOf_sl, treeOf_t, srVer_sref, srOff_sref, srLen_sref, ver_row, esOf_row, cellOf_box, aI_mk, aB_mk, aS_mk, aL_mk, aggOf_agg, join_eq, List.getD_cons_zero, List.getD_cons_succ, decide_true, decide_false, cnd_true, cnd_false, true_and, and_true, false_and, and_false, Option.bind_some, Option.bind_none, List.length_cons, List.length_nil, List.length_map, List.getElem?_map, Option.map_some, Option.map_none, Int.toNat_natCast, reduceCtorEq, eq_self, if_true, if_false, Nat.zero_add, Nat.reduceAdd, Nat.reduceEqDiff, Int.natCast_nonneg, List.drop_zero, or_true, true_or, or_false, false_or, Bool.not_true, Bool.not_false, Bool.false_eq_true, decide_eq_true_eq, ge_iff_le, gt_iff_lt, Int.lt_irrefl]
theorem r5 (l : List Arr) (hg : GoodA l) {rate : Int} (hr : 1 ≤ rate ∧ rate ≤ 1000) {s : QS} (hs : QInv l s) {t : Int} (ht : timeQ s = some t) (p7 p5 p14 : List AV × Heap) (h0 : vB p7 0 = s.busy) (h1 : vI p7 2 = ((l.length - s.co.length : Nat) : Int)) (h2 : vI p14 0 = t) (h3 : vI p7 3 = s.fin) (h4 : vL p7 1 = s.wait.map Entry.enc) (h5 : sVer p5 0 = l.length) (h6 : sOff p5 0 = 0) (h7 : sLen p5 0 = l.length) (h8 : p14.2 = hpR l s.out s.now) :
    Ev fun n => ∀ z, J14_9 n (l.map Arr.enc) rate z p7 p5 p14 = z (stR l (stepQ l rate t s)) := by
  have hm := hs.mu hg.len
  have htb : 0 ≤ t ∧ t ≤ 1099520016384 := by
    have h := timeQ_bd hg hs ht
    refine ⟨h.1, ?_⟩
    rcases h.2 with h | ⟨hb, h⟩
    · omega
    · have := hs.fin hb
      omega
  have hoV : oVer p14 0 = l.length := by unfold oVer; rw [h8]; rfl
  have hoE : oEs p14 0 = s.out.map encI := by unfold oEs; rw [h8]; rfl
  have hc0 : cI p14 1 0 = s.now.ticket := by unfold cI; rw [h8]; rfl
  have hc1 : cI p14 1 1 = s.now.prio := by unfold cI; rw [h8]; rfl
  have hc2 : cI p14 1 2 = s.now.exp := by unfold cI; rw [h8]; rfl
  have hc3 : cI p14 1 3 = s.now.size := by unfold cI; rw [h8]; rfl
  unfold stepQ
  have hmid := hs.mid.end t
  by_cases hd : s.busy = true ∧ t = s.fin
  · have hend : endQ l t s = { s with busy := false, out := markQ l s.now.ticket t s.out } := by unfold endQ; rw [if_pos hd]
    rw [hend] at hmid ⊢
    have k1 := r3 l hg hr htb _ hmid p7 p14 ([.t (.bool false)], hpR l (markQ l s.now.ticket t s.out) s.now) h1 h2 h3 h4 rfl rfl
    have k2 := r4 l hg.len t s.out hs.out s.now p5 p14 h5 h6 h7 h2
    refine (k1.and k2).mono fun n h z => ?_
    obtain ⟨m1, m2⟩ := h
    simp only [hpR, bxE] at m2
    have hbe : (t == s.fin) = true := by simpa using hd.2
    simp only [J14_9, J14_8, vI_mk, vB_mk, vS_mk, vL_mk, sVer_mk, sOff_mk, sLen_mk, oVer_mk, oEs_mk, cI_mk, cB_mk, cS_mk, cL_mk, cVer_mk, cOff_mk, cLen_mk, gI_zero, gI_succ, gB_zero, gB_succ, gS_zero, gS_succ, gL_zero, gL_succ, okI_zero, okI_succ, okB_zero, okB_succ, okS_zero, okS_succ, okL_zero, okL_succ, isIntT_int, isBoolT_bool, isStrT_str, isSlT_sl, intOf_int, boolOf_bool, strOf_str, slOf_sl, treeOf_t, srVer_sref, srOff_sref, srLen_sref, ver_row, esOf_row, cellOf_box, aI_mk, aB_mk, aS_mk, aL_mk, aggOf_agg, join_eq, List.getD_cons_zero, List.getD_cons_succ, decide_true, decide_false, cnd_true, cnd_false, true_and, and_true, false_and, and_false, Option.bind_some, Option.bind_none, List.length_cons, List.length_nil, List.length_map, List.getElem?_map, Option.map_some, Option.map_none, Int.toNat_natCast, reduceCtorEq, eq_self, if_true, if_false, Nat.zero_add, Nat.reduceAdd, Nat.reduceEqDiff, Int.natCast_nonneg, List.drop_zero, or_true, true_or, or_false, false_or, Bool.not_true, Bool.not_false, Bool.false_eq_true, decide_eq_true_eq, ge_iff_le, gt_iff_lt, h0, hd.1, h2, h3, hbe, hoV, hoE, hc0, hc1, hc2, hc3, m2]
    exact m1 z
  · have hend : endQ l t s = s := by unfold endQ; rw [if_neg hd]
    rw [hend] at hmid ⊢
    have k1 := r3 l hg hr htb s hmid p7 p14 ([.t (.bool s.busy)], hpR l s.out s.now) h1 h2 h3 h4 rfl rfl
    refine k1.mono fun n m1 z => ?_
    have m1' := m1 z
    simp only [hpR, bxE] at m1'
    cases hb : s.busy with
    | true =>
      have hbe : (t == s.fin) = false := by
        have : ¬ t = s.fin := fun h => hd ⟨hb, h⟩
        simpa using this
      rw [hb] at m1' h0
      simp only [J14_9, J14_8, vI_mk, vB_mk, vS_mk, vL_mk, sVer_mk, sOff_mk, sLen_mk, oVer_mk, oEs_mk, cI_mk, cB_mk, cS_mk, cL_mk, cVer_mk, cOff_mk, cLen_mk, gI_zero, gI_succ, gB_zero, gB_succ, gS_zero, gS_succ, gL_zero, gL_succ, okI_zero, okI_succ, okB_zero, okB_succ, okS_zero, okS_succ, okL_zero, okL_succ, isIntT_int, isBoolT_bool, isStrT_str, isSlT_sl, intOf_int, boolOf_bool, strOf_str, slOf_sl, treeOf_t, srVer_sref, srOff_sref, srLen_sref, ver_row, esOf_row, cellOf_box, aI_mk, aB_mk, aS_mk, aL_mk, aggOf_agg, join_eq, List.getD_cons_zero, List.getD_cons_succ, decide_true, decide_false, cnd_true, cnd_false, true_and, and_true, false_and, and_false, Option.bind_some, Option.bind_none, List.length_cons, List.length_nil, List.length_map, List.getElem?_map, Option.map_some, Option.map_none, Int.toNat_natCast, reduceCtorEq, eq_self, if_true, if_false, Nat.zero_add, Nat.reduceAdd, Nat.reduceEqDiff, Int.natCast_nonneg, List.drop_zero, or_true, true_or, or_false, false_or, Bool.not_true, Bool.not_false, Bool.false_eq_true, decide_eq_true_eq, ge_iff_le, gt_iff_lt, h0, h2, h3, hbe, hoV, hoE, hc0, hc1, hc2, hc3]
      exact m1'
    | false =>
      rw [hb] at m1' h0
      simp only [J14_9, J14_8, vI_mk, vB_mk, vS_mk, vL_mk, sVer_mk, sOff_mk, sLen_mk, oVer_mk, oEs_mk, cI_mk, cB_mk, cS_mk, cL_mk, cVer_mk, cOff_mk, cLen_mk, gI_zero, gI_succ, gB_zero, gB_succ, gS_zero, gS_succ, gL_zero, gL_succ, okI_zero, okI_succ, okB_zero, okB_succ, okS_zero, okS_succ, okL_zero, okL_succ, isIntT_int, isBoolT_bool, isStrT_str, isSlT_sl, intOf_int, boolOf_bool, strOf_str, slOf_sl, treeOf_t, srVer_sref, srOff_sref, srLen_sref, ver_row, esOf_row, cellOf_box, aI_mk, aB_mk, aS_mk, aL_mk, aggOf_agg, join_eq, List.getD_cons_zero, List.getD_cons_succ, decide_true, decide_false, cnd_true, cnd_false, true_and, and_true, false_and, and_false, Option.bind_some, Option.bind_none, List.length_cons, List.length_nil, List.length_map, List.getElem?_map, Option.map_some, Option.map_none, Int.toNat_natCast, reduceCtorEq, eq_self, if_true, if_false, Nat.zero_add, Nat.reduceAdd, Nat.reduceEqDiff, Int.natCast_nonneg, List.drop_zero, or_true, true_or, or_false, false_or, Bool.not_true, Bool.not_false, Bool.false_eq_true, decide_eq_true_eq, ge_iff_le, gt_iff_lt, h0, h2, h3, hoV, hoE, hc0, hc1, hc2, hc3]
      exact m1'
theorem r6 (l : List Arr) (hg : GoodA l) {rate : Int} (hr : 1 ≤ rate ∧ rate ≤ 1000) {s : QS} (hs : QInv l s) (p5 : List AV × Heap) (h5 : sVer p5 0 = l.length) (h6 : sOff p5 0 = 0) (h7 : sLen p5 0 = l.length) :
    Ev fun n => ∀ again, L14_12 n (l.map Arr.enc) rate p5 (stR l s) again = (roundQ l rate s).go (fun s' => again (stR l s')) (fun q => some [.sl 1 (q.map encI), tI 0]) := by
  have hwl := hs.wl
  have hcol : s.co.length ≤ l.length := by omega
  have hlen := hg.len
  cases ht : timeQ s with
  | none =>
    have : s.busy = false ∧ s.co = [] := by
      unfold timeQ at ht
      split at ht <;> first | cases ht | skip
      rename_i hb hc
      exact ⟨hb, hc⟩
    obtain ⟨hb, hc⟩ := this
    refine Ev.of fun n again => ?_
    unfold roundQ
    rw [ht]
    have e1 : List.take l.length (s.out.map encI) = s.out.map encI := List.take_of_length_le (by rw [List.length_map, hs.out]; omega)
    simp only [L14_12, J14_11, stR, hpR, bxE, hb, hc, vI_mk, vB_mk, vS_mk, vL_mk, sVer_mk, sOff_mk, sLen_mk, oVer_mk, oEs_mk, cI_mk, cB_mk, cS_mk, cL_mk, cVer_mk, cOff_mk, cLen_mk, gI_zero, gI_succ, gB_zero, gB_succ, gS_zero, gS_succ, gL_zero, gL_succ, okI_zero, okI_succ, okB_zero, okB_succ, okS_zero, okS_succ, okL_zero, okL_succ, isIntT_int, isBoolT_bool, isStrT_str, isSlT_sl, intOf_int, boolOf_bool, strOf_str, slOf_sl, treeOf_t, srVer_sref, srOff_sref, srLen_sref, ver_row, esOf_row, cellOf_box, aI_mk, aB_mk, aS_mk, aL_mk, aggOf_agg, join_eq, List.getD_cons_zero, List.getD_cons_succ, decide_true, decide_false, cnd_true, cnd_false, true_and, and_true, false_and, and_false, Option.bind_some, Option.bind_none, List.length_cons, List.length_nil, List.length_map, List.getElem?_map, Option.map_some, Option.map_none, Int.toNat_natCast, reduceCtorEq, eq_self, if_true, if_false, Nat.zero_add, Nat.reduceAdd, Nat.reduceEqDiff, Int.natCast_nonneg, List.drop_zero, or_true, true_or, or_false, false_or, Bool.not_true, Bool.not_false, Bool.false_eq_true, decide_eq_true_eq, ge_iff_le, gt_iff_lt, Nat.sub_zero, Int.lt_irrefl, h5, h6, h7, e1, Rd.go_done]
  | some t =>
    have hgo : ∀ again : List AV × Heap → Option (List Tree), (roundQ l rate s).go (fun s' => again (stR l s')) (fun q => some [.sl 1 (q.map encI), tI 0]) = again (stR l (stepQ l rate t s)) := by
      intro again
      unfold roundQ
      rw [ht]
      rfl
    have k := r5 l hg hr hs ht (stR l s) p5 ([.t (tI t)], hpR l s.out s.now) rfl rfl rfl rfl rfl h5 h6 h7 rfl
    refine k.mono fun n m again => ?_
    rw [hgo]
    have m' := m again
    cases hc : s.co with
    | nil =>
      have hbt : s.busy = true ∧ t = s.fin := by
        unfold timeQ at ht
        rw [hc] at ht
        cases hb : s.busy with
        | true => rw [hb] at ht; cases ht; exact ⟨rfl, rfl⟩
        | false => rw [hb] at ht; cases ht
      obtain ⟨hb, hbt⟩ := hbt
      simp only [stR, hc, hb, hpR, bxE, List.length_nil, Nat.sub_zero] at m'
      rw [← hbt] at m'
      simp only [L14_12, J14_11, J14_10, stR, hpR, bxE, hb, hc, vI_mk, vB_mk, vS_mk, vL_mk, sVer_mk, sOff_mk, sLen_mk, oVer_mk, oEs_mk, cI_mk, cB_mk, cS_mk, cL_mk, cVer_mk, cOff_mk, cLen_mk, gI_zero, gI_succ, gB_zero, gB_succ, gS_zero, gS_succ, gL_zero, gL_succ, okI_zero, okI_succ, okB_zero, okB_succ, okS_zero, okS_succ, okL_zero, okL_succ, isIntT_int, isBoolT_bool, isStrT_str, isSlT_sl, intOf_int, boolOf_bool, strOf_str, slOf_sl, treeOf_t, srVer_sref, srOff_sref, srLen_sref, ver_row, esOf_row, cellOf_box, aI_mk, aB_mk, aS_mk, aL_mk, aggOf_agg, join_eq, List.getD_cons_zero, List.getD_cons_succ, decide_true, decide_false, cnd_true, cnd_false, true_and, and_true, false_and, and_false, Option.bind_some, Option.bind_none, List.length_cons, List.length_nil, List.length_map, List.getElem?_map, Option.map_some, Option.map_none, Int.toNat_natCast, reduceCtorEq, eq_self, if_true, if_false, Nat.zero_add, Nat.reduceAdd, Nat.reduceEqDiff, Int.natCast_nonneg, List.drop_zero, or_true, true_or, or_false, false_or, Bool.not_true, Bool.not_false, Bool.false_eq_true, decide_eq_true_eq, ge_iff_le, gt_iff_lt, Nat.sub_zero, Int.lt_irrefl]
      rw [← hbt]
      exact m'
    | cons a r =>
      have hk : l[l.length - s.co.length]? = some a := by
        have h := hs.co
        have h2 := congrArg (fun m => m[0]?) h
        simp only [hc, List.getElem?_cons_zero, List.getElem?_drop, Nat.add_zero] at h2
        rw [hc]
        exact h2.symm
      have hlt : l.length - s.co.length < l.length := lt_of_some hk
      have hlt' : ((l.length - s.co.length : Nat) : Int) < (l.length : Int) := by omega
      cases hb : s.busy with
      | false =>
        have hta : t = a.at_ := by
          unfold timeQ at ht
          rw [hc, hb] at ht
          cases ht; rfl
        simp only [stR, hb, hpR, bxE] at m'
        rw [hta] at m'
        simp only [L14_12, J14_11, J14_10, stR, hpR, bxE, hb, vI_mk, vB_mk, vS_mk, vL_mk, sVer_mk, sOff_mk, sLen_mk, oVer_mk, oEs_mk, cI_mk, cB_mk, cS_mk, cL_mk, cVer_mk, cOff_mk, cLen_mk, gI_zero, gI_succ, gB_zero, gB_succ, gS_zero, gS_succ, gL_zero, gL_succ, okI_zero, okI_succ, okB_zero, okB_succ, okS_zero, okS_succ, okL_zero, okL_succ, isIntT_int, isBoolT_bool, isStrT_str, isSlT_sl, intOf_int, boolOf_bool, strOf_str, slOf_sl, treeOf_t, srVer_sref, srOff_sref, srLen_sref, ver_row, esOf_row, cellOf_box, aI_mk, aB_mk, aS_mk, aL_mk, aggOf_agg, join_eq, List.getD_cons_zero, List.getD_cons_succ, decide_true, decide_false, cnd_true, cnd_false, true_and, and_true, false_and, and_false, Option.bind_some, Option.bind_none, List.length_cons, List.length_nil, List.length_map, List.getElem?_map, Option.map_some, Option.map_none, Int.toNat_natCast, reduceCtorEq, eq_self, if_true, if_false, Nat.zero_add, Nat.reduceAdd, Nat.reduceEqDiff, Int.natCast_nonneg, List.drop_zero, or_true, true_or, or_false, false_or, Bool.not_true, Bool.not_false, Bool.false_eq_true, decide_eq_true_eq, ge_iff_le, gt_iff_lt, hlt', hk, Arr.enc]
        rw [hta]
        exact m'
      | true =>
        have hta : t = if a.at_ < s.fin then a.at_ else s.fin := by
          unfold timeQ at ht
          rw [hc, hb] at ht
          cases ht; rfl
        simp only [stR, hb, hpR, bxE] at m'
        by_cases hf : a.at_ < s.fin
        · rw [if_pos hf] at hta
          rw [hta] at m'
          simp only [L14_12, J14_11, J14_10, stR, hpR, bxE, hb, vI_mk, vB_mk, vS_mk, vL_mk, sVer_mk, sOff_mk, sLen_mk, oVer_mk, oEs_mk, cI_mk, cB_mk, cS_mk, cL_mk, cVer_mk, cOff_mk, cLen_mk, gI_zero, gI_succ, gB_zero, gB_succ, gS_zero, gS_succ, gL_zero, gL_succ, okI_zero, okI_succ, okB_zero, okB_succ, okS_zero, okS_succ, okL_zero, okL_succ, isIntT_int, isBoolT_bool, isStrT_str, isSlT_sl, intOf_int, boolOf_bool, strOf_str, slOf_sl, treeOf_t, srVer_sref, srOff_sref, srLen_sref, ver_row, esOf_row, cellOf_box, aI_mk, aB_mk, aS_mk, aL_mk, aggOf_agg, join_eq, List.getD_cons_zero, List.getD_cons_succ, decide_true, decide_false, cnd_true, cnd_false, true_and, and_true, false_and, and_false, Option.bind_some, Option.bind_none, List.length_cons, List.length_nil, List.length_map, List.getElem?_map, Option.map_some, Option.map_none, Int.toNat_natCast, reduceCtorEq, eq_self, if_true, if_false, Nat.zero_add, Nat.reduceAdd, Nat.reduceEqDiff, Int.natCast_nonneg, List.drop_zero, or_true, true_or, or_false, false_or, Bool.not_true, Bool.not_false, Bool.false_eq_true, decide_eq_true_eq, ge_iff_le, gt_iff_lt, hlt', hk, Arr.enc, hf]
          rw [hta]
          exact m'
        · rw [if_neg hf] at hta
          rw [hta] at m'
          simp only [L14_12, J14_11, J14_10, stR, hpR, bxE, hb, vI_mk, vB_mk, vS_mk, vL_mk, sVer_mk, sOff_mk, sLen_mk, oVer_mk, oEs_mk, cI_mk, cB_mk, cS_mk, cL_mk, cVer_mk, cOff_mk, cLen_mk, gI_zero, gI_succ, gB_zero, gB_succ, gS_zero, gS_succ, gL_zero, gL_succ, okI_zero, okI_succ, okB_zero, okB_succ, okS_zero, okS_succ, okL_zero, okL_succ, isIntT_int, isBoolT_bool, isStrT_str, isSlT_sl, intOf_int, boolOf_bool, strOf_str, slOf_sl, treeOf_t, srVer_sref, srOff_sref, srLen_sref, ver_row, esOf_row, cellOf_box, aI_mk, aB_mk, aS_mk, aL_mk, aggOf_agg, join_eq, List.getD_cons_zero, List.getD_cons_succ, decide_true, decide_false, cnd_true, cnd_false, true_and, and_true, false_and, and_false, Option.bind_some, Option.bind_none, List.length_cons, List.length_nil, List.length_map, List.getElem?_map, Option.map_some, Option.map_none, Int.toNat_natCast, reduceCtorEq, eq_self, if_true, if_false, Nat.zero_add, Nat.reduceAdd, Nat.reduceEqDiff, Int.natCast_nonneg, List.drop_zero, or_true, true_or, or_false, false_or, Bool.not_true, Bool.not_false, Bool.false_eq_true, decide_eq_true_eq, ge_iff_le, gt_iff_lt, hlt', hk, Arr.enc, hf]
          rw [hta]
          exact m'
def servR (l : List Arr) (rate : Int) : List Int × Int := if checkR l rate ≠ 0 then ([], checkR l rate) else (serveQ l rate, 0)
theorem round_inv {l : List Arr} (hg : GoodA l) {rate : Int} (hr : 1 ≤ rate ∧ rate ≤ 1000) {s s' : QS} (hs : QInv l s) (hn : roundQ l rate s = .next s') : QInv l s' ∧ muQ s' < muQ s := by
  refine ⟨?_, round_mu hn⟩
  unfold roundQ at hn
  split at hn
  · cases hn
  · rename_i t ht
    cases hn
    exact hs.step hg hr ht
theorem s14w (l : List Arr) (hg : GoodA l) {rate : Int} (hr : 1 ≤ rate ∧ rate ≤ 1000) (p5 : List AV × Heap) (h5 : sVer p5 0 = l.length) (h6 : sOff p5 0 = 0) (h7 : sLen p5 0 = l.length) :
    Ev fun n => loopIter (fun p again => L14_12 n (l.map Arr.enc) rate p5 p again) n (stR l (startQ l)) = some [.sl 1 ((serveQ l rate).map encI), tI 0] := by
  have hst : ∀ s, QInv l s → Ev fun n => ∀ again, L14_12 n (l.map Arr.enc) rate p5 (stR l s) again = (roundQ l rate s).go (fun s' => again (stR l s')) (fun q => some ((fun (q : List Int) => [Tree.sl 1 (q.map encI), tI 0]) q)) := fun s hs => r6 l hg hr hs p5 h5 h6 h7
  exact while_overQ (R := List Tree) (B := fun n p again => L14_12 n (l.map Arr.enc) rate p5 p again) (s := stR l (startQ l)) (r := serveQ l rate) (fun q => [Tree.sl 1 (q.map encI), tI 0]) (stR l) (roundQ l rate) (QInv l) muQ (runQ l rate) (startQ l) rfl QInv.start rfl hst
    (fun s s' hs hn => round_inv hg hr hs hn) (fun s hs => runQ_eq l rate s)
theorem s14 (l : List Arr) (rate : Int) (hl : l.length ≤ 1000000) : Runs C 14 [.sl 5 (l.map Arr.enc), tI rate] [.sl 1 ((servR l rate).1.map encI), tI (servR l rate).2] := by
  refine Runs.of (fun n => e14 n _ _) ?_
  unfold servR checkR
  by_cases r1 : rate < 1
  · refine Ev.of fun n => ?_
    simp [r1, cnd_eq, J14_14, join_eq, vB, boolOf, treeOf]
  by_cases r2 : 1000 < rate
  · refine Ev.of fun n => ?_
    simp [r1, r2, cnd_eq, J14_14, join_eq, vB, boolOf, treeOf]
  rw [if_neg (show ¬ (rate < 1 ∨ 1000 < rate) by omega)]
  by_cases hc : checkA l = 0
  · have hg := (checkA_zero l).1 hc
    have hlen := hg.len
    refine Ev.rw (T' := ?TT) (s40 l hl) (fun k h => ?g1) ?g2
    case g1 =>
      simp only [J14_14, r1, r2, vI_mk, vB_mk, vS_mk, vL_mk, sVer_mk, sOff_mk, sLen_mk, oVer_mk, oEs_mk, cI_mk, cB_mk, cS_mk, cL_mk, cVer_mk, cOff_mk, cLen_mk, gI_zero, gI_succ, gB_zero, gB_succ, gS_zero, gS_succ, gL_zero, gL_succ, okI_zero, okI_succ, okB_zero, okB_succ, okS_zero, okS_succ, okL_zero, okL_succ, isIntT_int, isBoolT_bool, isStrT_str, isSlT_sl, intOf_int, boolOf_bool, strOf_str, slOf_sl, treeOf_t, srVer_sref, srOff_sref, srLen_sref, ver_row, esOf_row, cellOf_box, aI_mk, aB_mk, aS_mk, aL_mk, aggOf_agg, join_eq, List.getD_cons_zero, List.getD_cons_succ, decide_true, decide_false, cnd_true, cnd_false, true_and, and_true, false_and, and_false, Option.bind_some, Option.bind_none, List.length_cons, List.length_nil, List.length_map, List.getElem?_map, Option.map_some, Option.map_none, Int.toNat_natCast, reduceCtorEq, eq_self, if_true, if_false, Nat.zero_add, Nat.reduceAdd, Nat.reduceEqDiff, Int.natCast_nonneg, List.drop_zero, or_true, true_or, or_false, false_or, Bool.not_true, Bool.not_false, Bool.false_eq_true, decide_eq_true_eq, ge_iff_le, gt_iff_lt, h, hc, bne_self_eq_false]
      rfl
    case g2 =>
      simp only [hc, ne_eq, not_true, if_false]
      have key := s14w l hg (rate := rate) (by omega) ([.sref 0 l.length 0 l.length, .t (tI l.length)], [.row false l.length 1 ((List.replicate l.length (-1)).map encI)]) rfl rfl rfl
      refine loop_overQ (fun (q : List Int) => [Tree.sl 1 (q.map encI), tI 0]) l (fun i (_ : Unit) => (([.sref 0 i 0 i, .t (tI i)], [.row false i 1 ((List.replicate i (-1)).map encI)]) : List AV × Heap)) (fun _ _ _ => .next ()) (fun _ => serveQ l rate) (fun _ _ => True) () rfl trivial (runL_fold (fun _ _ => ()) (fun _ => serveQ l rate) 0 _ ())
        (fun i s a ha hI => Ev.of fun n again => ?_) (fun _ _ _ _ _ _ _ => trivial) (fun s hI => ?_)
      · have hi := lt_of_some ha
        have e1 : List.take i ((List.replicate i (-1 : Int)).map encI) = (List.replicate i (-1)).map encI := List.take_of_length_le (by simp)
        simp only [L14_13, vI_mk, vB_mk, vS_mk, vL_mk, sVer_mk, sOff_mk, sLen_mk, oVer_mk, oEs_mk, cI_mk, cB_mk, cS_mk, cL_mk, cVer_mk, cOff_mk, cLen_mk, gI_zero, gI_succ, gB_zero, gB_succ, gS_zero, gS_succ, gL_zero, gL_succ, okI_zero, okI_succ, okB_zero, okB_succ, okS_zero, okS_succ, okL_zero, okL_succ, isIntT_int, isBoolT_bool, isStrT_str, isSlT_sl, intOf_int, boolOf_bool, strOf_str, slOf_sl, treeOf_t, srVer_sref, srOff_sref, srLen_sref, ver_row, esOf_row, cellOf_box, aI_mk, aB_mk, aS_mk, aL_mk, aggOf_agg, join_eq, List.getD_cons_zero, List.getD_cons_succ, decide_true, decide_false, cnd_true, cnd_false, true_and, and_true, false_and, and_false, Option.bind_some, Option.bind_none, List.length_cons, List.length_nil, List.length_map, List.getElem?_map, Option.map_some, Option.map_none, Int.toNat_natCast, reduceCtorEq, eq_self, if_true, if_false, Nat.zero_add, Nat.reduceAdd, Nat.reduceEqDiff, Int.natCast_nonneg, List.drop_zero, or_true, true_or, or_false, false_or, Bool.not_true, Bool.not_false, Bool.false_eq_true, decide_eq_true_eq, ge_iff_le, gt_iff_lt, (show (i : Int) < (l.length : Int) by omega), List.length_replicate, Nat.le_refl, (show i + 1 ≤ 1073741824 by omega), e1, w64_succ (show i < 4611686018427387904 by omega), Rd.go_next]
        rw [List.replicate_succ', List.map_append]
        rfl
      · refine key.mono fun n h again => ?_
        simp only [L14_13, vI_mk, vB_mk, vS_mk, vL_mk, sVer_mk, sOff_mk, sLen_mk, oVer_mk, oEs_mk, cI_mk, cB_mk, cS_mk, cL_mk, cVer_mk, cOff_mk, cLen_mk, gI_zero, gI_succ, gB_zero, gB_succ, gS_zero, gS_succ, gL_zero, gL_succ, okI_zero, okI_succ, okB_zero, okB_succ, okS_zero, okS_succ, okL_zero, okL_succ, isIntT_int, isBoolT_bool, isStrT_str, isSlT_sl, intOf_int, boolOf_bool, strOf_str, slOf_sl, treeOf_t, srVer_sref, srOff_sref, srLen_sref, ver_row, esOf_row, cellOf_box, aI_mk, aB_mk, aS_mk, aL_mk, aggOf_agg, join_eq, List.getD_cons_zero, List.getD_cons_succ, decide_true, decide_false, cnd_true, cnd_false, true_and, and_true, false_and, and_false, Option.bind_some, Option.bind_none, List.length_cons, List.length_nil, List.length_map, List.getElem?_map, Option.map_some, Option.map_none, Int.toNat_natCast, reduceCtorEq, eq_self, if_true, if_false, Nat.zero_add, Nat.reduceAdd, Nat.reduceEqDiff, Int.natCast_nonneg, List.drop_zero, or_true, true_or, or_false, false_or, Bool.not_true, Bool.not_false, Bool.false_eq_true, decide_eq_true_eq, ge_iff_le, gt_iff_lt, Int.lt_irrefl]
        refine Eq.trans ?_ h
        simp only [stR, startQ, zeroE, hpR, bxE, Nat.sub_self, List.map_nil, Int.natCast_zero]
  · refine (s40 l hl).mono fun n h => ?_
    have : (checkA l != 0) = true := by simp [hc]
    simp only [J14_14, r1, r2, vI_mk, vB_mk, vS_mk, vL_mk, sVer_mk, sOff_mk, sLen_mk, oVer_mk, oEs_mk, cI_mk, cB_mk, cS_mk, cL_mk, cVer_mk, cOff_mk, cLen_mk, gI_zero, gI_succ, gB_zero, gB_succ, gS_zero, gS_succ, gL_zero, gL_succ, okI_zero, okI_succ, okB_zero, okB_succ, okS_zero, okS_succ, okL_zero, okL_succ, isIntT_int, isBoolT_bool, isStrT_str, isSlT_sl, intOf_int, boolOf_bool, strOf_str, slOf_sl, treeOf_t, srVer_sref, srOff_sref, srLen_sref, ver_row, esOf_row, cellOf_box, aI_mk, aB_mk, aS_mk, aL_mk, aggOf_agg, join_eq, List.getD_cons_zero, List.getD_cons_succ, decide_true, decide_false, cnd_true, cnd_false, true_and, and_true, false_and, and_false, Option.bind_some, Option.bind_none, List.length_cons, List.length_nil, List.length_map, List.getElem?_map, Option.map_some, Option.map_none, Int.toNat_natCast, reduceCtorEq, eq_self, if_true, if_false, Nat.zero_add, Nat.reduceAdd, Nat.reduceEqDiff, Int.natCast_nonneg, List.drop_zero, or_true, true_or, or_false, false_or, Bool.not_true, Bool.not_false, Bool.false_eq_true, decide_eq_true_eq, ge_iff_le, gt_iff_lt, h, this]
    simp [hc]
end Ab
