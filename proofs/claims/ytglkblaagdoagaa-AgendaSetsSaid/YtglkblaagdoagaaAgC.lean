/- Agenda: place, Add, Remove and the reference's. -/
import Derived.Test.YtglkblaagdoagaaAgP
set_option linter.unusedVariables false
set_option linter.unusedSimpArgs false
namespace Ab
open Go

theorem cmp_pos (a b : Event) : 0 < cmpE a b ↔ less b a = true := by
  unfold cmpE less cmpI
  grind
theorem cmp_zero (a b : Event) : cmpE a b = 0 ↔ a = b := by
  cases a; cases b
  unfold cmpE cmpI
  simp only [Event.mk.injEq]
  grind
theorem half (a b : Nat) (h : a + b < 4611686018427387904) : w64 (Int.tdiv (w64 ((a : Int) + (b : Int))) 2) = (((a + b) / 2 : Nat) : Int) := by
  rw [w64_id (x := (a : Int) + (b : Int)) (by omega) (by omega), show (a : Int) + (b : Int) = ((a + b : Nat) : Int) by omega, show Int.tdiv ((a + b : Nat) : Int) 2 = (((a + b) / 2 : Nat) : Int) from rfl, w64_id (by omega) (by omega)]
theorem mem_at {l : List Event} {e : Event} {k : Nat} (hs : Srt l) (h1 : ∀ (j : Nat) x, j < k → l[j]? = some x → less x e = true) (h2 : ∀ (j : Nat) x, k ≤ j → l[j]? = some x → less x e = false) : l[k]? = some e ↔ e ∈ l := by
  constructor
  · exact List.mem_of_getElem?
  · intro hm
    obtain ⟨j, hj⟩ := List.mem_iff_getElem?.1 hm
    rcases Nat.lt_trichotomy j k with h | h | h
    · have := h1 j e h hj; rw [lt_irr] at this; cases this
    · rw [← h]; exact hj
    · have hjl := lt_of_some hj
      have hk : l[k]? = some l[k] := List.getElem?_eq_getElem (by omega)
      have h3 := h2 k _ (Nat.le_refl _) hk
      have h4 := List.pairwise_iff_getElem.1 hs k j (by omega) hjl h
      rw [List.getElem?_eq_getElem hjl] at hj
      cases hj
      rw [h3] at h4
      cases h4

theorem s44 (l : List Event) (e : Event) (hl : l.length ≤ 1000000) : Runs C 44 [.sl 3 (l.map Event.enc), tI e.time, tI e.kind, tI e.number] [.bool (decide (e ∈ l))] := by
  refine Runs.of (fun n => e44 n _ _ _ _) ?_
  refine loop_overQ (fun r => [Tree.bool r]) l (fun i _ => (([.t (tI i)], []) : List AV × Heap)) (fun i _ x => if decide (x = e) = true then .done true else .next ()) (fun _ => false) (fun _ _ => True) () rfl trivial ?_
    (fun i s x hx hI => Ev.of fun n again => ?_) (fun _ _ _ _ _ _ _ => trivial) (fun s hI => Ev.of fun n again => ?_)
  · rw [runL_any, Bool.eq_iff_iff]
    simp
  · have hi := lt_of_some hx
    simp only [vI_mk, vB_mk, vS_mk, vL_mk, sVer_mk, sOff_mk, sLen_mk, oVer_mk, oEs_mk, cI_mk, cB_mk, cS_mk, cL_mk, cVer_mk, cOff_mk, cLen_mk, gI_zero, gI_succ, gB_zero, gB_succ, gS_zero, gS_succ, gL_zero, gL_succ, okI_zero, okI_succ, okB_zero, okB_succ, okS_zero, okS_succ, okL_zero, okL_succ, isIntT_int, isBoolT_bool, isStrT_str, isSlT_sl, intOf_int, boolOf_bool, strOf_str, slOf_sl, treeOf_t, srVer_sref, srOff_sref, srLen_sref, ver_row, esOf_row, cellOf_box, List.getD_cons_zero, List.getD_cons_succ, decide_true, decide_false, cnd_true, cnd_false, true_and, and_true, false_and, and_false, Option.bind_some, Option.bind_none, List.length_cons, List.length_nil, List.length_map, List.getElem?_map, Option.map_some, Option.map_none, Int.toNat_natCast, reduceCtorEq, eq_self, if_true, if_false, Nat.zero_add, Nat.reduceAdd, Nat.reduceEqDiff, Int.natCast_nonneg, List.drop_zero, or_true, true_or, or_false, false_or, Bool.not_true, Bool.not_false, Bool.false_eq_true, decide_eq_true_eq, ge_iff_le, gt_iff_lt, hx, Event.enc, w64_succ (show i < 4611686018427387904 by omega), (show (i : Int) < l.length by omega)]
    cases x with | mk x1 x2 x3 =>
    cases e with | mk y1 y2 y3 =>
    simp only [cnd_eq, Event.mk.injEq]
    grind [Rd.go_next, Rd.go_done]
  · simp only [vI_mk, vB_mk, vS_mk, vL_mk, sVer_mk, sOff_mk, sLen_mk, oVer_mk, oEs_mk, cI_mk, cB_mk, cS_mk, cL_mk, cVer_mk, cOff_mk, cLen_mk, gI_zero, gI_succ, gB_zero, gB_succ, gS_zero, gS_succ, gL_zero, gL_succ, okI_zero, okI_succ, okB_zero, okB_succ, okS_zero, okS_succ, okL_zero, okL_succ, isIntT_int, isBoolT_bool, isStrT_str, isSlT_sl, intOf_int, boolOf_bool, strOf_str, slOf_sl, treeOf_t, srVer_sref, srOff_sref, srLen_sref, ver_row, esOf_row, cellOf_box, List.getD_cons_zero, List.getD_cons_succ, decide_true, decide_false, cnd_true, cnd_false, true_and, and_true, false_and, and_false, Option.bind_some, Option.bind_none, List.length_cons, List.length_nil, List.length_map, List.getElem?_map, Option.map_some, Option.map_none, Int.toNat_natCast, reduceCtorEq, eq_self, if_true, if_false, Nat.zero_add, Nat.reduceAdd, Nat.reduceEqDiff, Int.natCast_nonneg, List.drop_zero, or_true, true_or, or_false, false_or, Bool.not_true, Bool.not_false, Bool.false_eq_true, decide_eq_true_eq, ge_iff_le, gt_iff_lt, Int.lt_irrefl]

def plStep (l : List Event) (e : Event) (s : Nat × Nat) : Rd (Nat × Nat) (Nat × Bool) :=
  if s.1 < s.2 then match l[(s.1 + s.2) / 2]? with
    | some x => if less x e = true then .next ((s.1 + s.2) / 2 + 1, s.2) else .next (s.1, (s.1 + s.2) / 2)
    | none => .done (0, false)
  else .done (s.1, decide (l[s.1]? = some e))
def PlInv (l : List Event) (e : Event) (s : Nat × Nat) : Prop := s.1 ≤ s.2 ∧ s.2 ≤ l.length ∧ (∀ (j : Nat) x, j < s.1 → l[j]? = some x → less x e = true) ∧ ∀ (j : Nat) x, s.2 ≤ j → l[j]? = some x → less x e = false
theorem srt_get {l : List Event} (hs : Srt l) {i j : Nat} {x y : Event} (hi : l[i]? = some x) (hj : l[j]? = some y) (h : i < j) : less x y = true := by
  have h1 := lt_of_some hi
  have h2 := lt_of_some hj
  have := List.pairwise_iff_getElem.1 hs i j h1 h2 h
  rw [List.getElem?_eq_getElem h1] at hi
  rw [List.getElem?_eq_getElem h2] at hj
  cases hi; cases hj
  exact this
theorem s42 (l : List Event) (e : Event) (hs : Srt l) (hl : l.length ≤ 1000) : Runs C 42 [.sl 3 (l.map Event.enc), tI e.time, tI e.kind, tI e.number] [tI (pos l e), .bool (decide (e ∈ l))] := by
  refine Runs.of (fun n => e42 n _ _ _ _) ?_
  refine while_overQ (r := (pos l e, decide (e ∈ l))) (fun (q : Nat × Bool) => [tI q.1, Tree.bool q.2]) (fun (s : Nat × Nat) => (([.t (tI s.1), .t (tI s.2)], []) : List AV × Heap)) (plStep l e) (PlInv l e) (fun s => s.2 - s.1) (fun _ => (pos l e, decide (e ∈ l))) (0, l.length) (by simp) ⟨by simp, by simp, fun j x h => by simp at h, fun j x h hx => by have := lt_of_some hx; simp at h; omega⟩ rfl
    (fun s hI => ?_) (fun s s' hI hs' => ?_) (fun s hI => ?_)
  · obtain ⟨a, b⟩ := s
    obtain ⟨i1, i2, i3, i4⟩ := hI
    simp only at i1 i2 i3 i4
    by_cases hab : a < b
    · have hm : l[(a + b) / 2]? = some l[(a + b) / 2] := List.getElem?_eq_getElem (by omega)
      refine (s36 e l[(a + b) / 2]).mono fun n h again => ?_
      simp only [Event.enc, List.cons_append, List.nil_append] at h
      simp only [vI_mk, vB_mk, vS_mk, vL_mk, sVer_mk, sOff_mk, sLen_mk, oVer_mk, oEs_mk, cI_mk, cB_mk, cS_mk, cL_mk, cVer_mk, cOff_mk, cLen_mk, gI_zero, gI_succ, gB_zero, gB_succ, gS_zero, gS_succ, gL_zero, gL_succ, okI_zero, okI_succ, okB_zero, okB_succ, okS_zero, okS_succ, okL_zero, okL_succ, isIntT_int, isBoolT_bool, isStrT_str, isSlT_sl, intOf_int, boolOf_bool, strOf_str, slOf_sl, treeOf_t, srVer_sref, srOff_sref, srLen_sref, ver_row, esOf_row, cellOf_box, List.getD_cons_zero, List.getD_cons_succ, decide_true, decide_false, cnd_true, cnd_false, true_and, and_true, false_and, and_false, Option.bind_some, Option.bind_none, List.length_cons, List.length_nil, List.length_map, List.getElem?_map, Option.map_some, Option.map_none, Int.toNat_natCast, reduceCtorEq, eq_self, if_true, if_false, Nat.zero_add, Nat.reduceAdd, Nat.reduceEqDiff, Int.natCast_nonneg, List.drop_zero, or_true, true_or, or_false, false_or, Bool.not_true, Bool.not_false, Bool.false_eq_true, decide_eq_true_eq, ge_iff_le, gt_iff_lt, half a b (by omega), hm, Event.enc, h, (show (a : Int) < (b : Int) by omega), plStep, if_pos hab, cmp_pos, w64_succ (show (a + b) / 2 < 4611686018427387904 by omega)]
      cases less l[(a + b) / 2] e <;> simp [cnd_eq, Rd.go_next]
    · obtain rfl : a = b := by omega
      by_cases hal : a < l.length
      · have hm : l[a]? = some l[a] := List.getElem?_eq_getElem hal
        refine (s36 e l[a]).mono fun n h again => ?_
        simp only [Event.enc, List.cons_append, List.nil_append] at h
        simp only [vI_mk, vB_mk, vS_mk, vL_mk, sVer_mk, sOff_mk, sLen_mk, oVer_mk, oEs_mk, cI_mk, cB_mk, cS_mk, cL_mk, cVer_mk, cOff_mk, cLen_mk, gI_zero, gI_succ, gB_zero, gB_succ, gS_zero, gS_succ, gL_zero, gL_succ, okI_zero, okI_succ, okB_zero, okB_succ, okS_zero, okS_succ, okL_zero, okL_succ, isIntT_int, isBoolT_bool, isStrT_str, isSlT_sl, intOf_int, boolOf_bool, strOf_str, slOf_sl, treeOf_t, srVer_sref, srOff_sref, srLen_sref, ver_row, esOf_row, cellOf_box, List.getD_cons_zero, List.getD_cons_succ, decide_true, decide_false, cnd_true, cnd_false, true_and, and_true, false_and, and_false, Option.bind_some, Option.bind_none, List.length_cons, List.length_nil, List.length_map, List.getElem?_map, Option.map_some, Option.map_none, Int.toNat_natCast, reduceCtorEq, eq_self, if_true, if_false, Nat.zero_add, Nat.reduceAdd, Nat.reduceEqDiff, Int.natCast_nonneg, List.drop_zero, or_true, true_or, or_false, false_or, Bool.not_true, Bool.not_false, Bool.false_eq_true, decide_eq_true_eq, ge_iff_le, gt_iff_lt, hm, Event.enc, h, Int.lt_irrefl, (show (a : Int) < (l.length : Int) by omega), plStep, Nat.lt_irrefl, Rd.go_done, Option.some.injEq]
        congr 4
        rw [Bool.eq_iff_iff]
        simp only [beq_iff_eq, cmp_zero, decide_eq_true_eq]
        exact eq_comm
      · refine Ev.of fun n again => ?_
        have hm : l[a]? = none := List.getElem?_eq_none (by omega)
        simp only [vI_mk, vB_mk, vS_mk, vL_mk, sVer_mk, sOff_mk, sLen_mk, oVer_mk, oEs_mk, cI_mk, cB_mk, cS_mk, cL_mk, cVer_mk, cOff_mk, cLen_mk, gI_zero, gI_succ, gB_zero, gB_succ, gS_zero, gS_succ, gL_zero, gL_succ, okI_zero, okI_succ, okB_zero, okB_succ, okS_zero, okS_succ, okL_zero, okL_succ, isIntT_int, isBoolT_bool, isStrT_str, isSlT_sl, intOf_int, boolOf_bool, strOf_str, slOf_sl, treeOf_t, srVer_sref, srOff_sref, srLen_sref, ver_row, esOf_row, cellOf_box, List.getD_cons_zero, List.getD_cons_succ, decide_true, decide_false, cnd_true, cnd_false, true_and, and_true, false_and, and_false, Option.bind_some, Option.bind_none, List.length_cons, List.length_nil, List.length_map, List.getElem?_map, Option.map_some, Option.map_none, Int.toNat_natCast, reduceCtorEq, eq_self, if_true, if_false, Nat.zero_add, Nat.reduceAdd, Nat.reduceEqDiff, Int.natCast_nonneg, List.drop_zero, or_true, true_or, or_false, false_or, Bool.not_true, Bool.not_false, Bool.false_eq_true, decide_eq_true_eq, ge_iff_le, gt_iff_lt, hm, Int.lt_irrefl, (show ¬ (a : Int) < (l.length : Int) by omega), plStep, Nat.lt_irrefl, Rd.go_done]
  · obtain ⟨a, b⟩ := s
    obtain ⟨i1, i2, i3, i4⟩ := hI
    simp only at i1 i2 i3 i4
    unfold plStep at hs'
    simp only at hs'
    split at hs'
    · rename_i hab
      split at hs'
      · rename_i x hx
        split at hs'
        · rename_i hxe
          cases hs'
          refine ⟨⟨by simp only; omega, i2, fun j y hj hy => ?_, i4⟩, by simp only; omega⟩
          rcases Nat.lt_or_ge j ((a + b) / 2) with h | h
          · exact lt_tr (srt_get hs hy hx h) hxe
          · have : j = (a + b) / 2 := by simp only at hj; omega
            subst this
            rw [hx] at hy
            cases hy
            exact hxe
        · rename_i hxe
          have hxe : less x e = false := by simpa using hxe
          cases hs'
          refine ⟨⟨by simp only; omega, by simp only; omega, i3, fun j y hj hy => ?_⟩, by simp only; omega⟩
          rcases Nat.lt_or_ge ((a + b) / 2) j with h | h
          · cases hye : less y e with
            | false => rfl
            | true =>
              have := lt_tr (srt_get hs hx hy h) hye
              rw [hxe] at this
              cases this
          · have : j = (a + b) / 2 := by simp only at hj; omega
            subst this
            rw [hx] at hy
            cases hy
            exact hxe
      · cases hs'
    · cases hs'
  · obtain ⟨a, b⟩ := s
    obtain ⟨i1, i2, i3, i4⟩ := hI
    simp only at i1 i2 i3 i4
    unfold plStep
    simp only
    split
    · rename_i hab
      have hm : l[(a + b) / 2]? = some l[(a + b) / 2] := List.getElem?_eq_getElem (by omega)
      rw [hm]
      simp only
      split <;> rfl
    · obtain rfl : a = b := by omega
      simp only [Rd.fin]
      rw [← pos_eq i2 i3 i4]
      congr 1
      rw [Bool.eq_iff_iff]
      simp only [decide_eq_true_eq]
      exact (mem_at hs i3 i4).symm

/-! ### the reference's insert -/
def insS (e : Event) (s : Nat × List Event × Bool) (x : Event) : Nat × List Event × Bool := if s.2.2 = false ∧ less e x = true then (s.1 + 2, s.2.1 ++ [e, x], true) else (s.1 + 1, s.2.1 ++ [x], s.2.2)
theorem insS_snd (e : Event) : ∀ (l : List Event) (s : Nat × List Event × Bool), (l.foldl (insS e) s).2 = l.foldl (insStep e) s.2
  | [], s => rfl
  | x :: l, s => by
    rw [List.foldl_cons, List.foldl_cons, insS_snd e l]
    congr 1
    unfold insS insStep
    split <;> rfl
theorem s45 (l : List Event) (e : Event) (hl : l.length ≤ 1000000) : Runs C 45 [.sl 3 (l.map Event.enc), tI e.time, tI e.kind, tI e.number] [.sl 3 ((refIns l e).map Event.enc)] := by
  refine Runs.of (fun n => e45 n _ _ _ _) ?_
  refine Ev.rw (T' := ?T') (s44 l e hl) (fun n h => ?a) ?b
  case a =>
    simp only [h, vI_mk, vB_mk, vS_mk, vL_mk, sVer_mk, sOff_mk, sLen_mk, oVer_mk, oEs_mk, cI_mk, cB_mk, cS_mk, cL_mk, cVer_mk, cOff_mk, cLen_mk, gI_zero, gI_succ, gB_zero, gB_succ, gS_zero, gS_succ, gL_zero, gL_succ, okI_zero, okI_succ, okB_zero, okB_succ, okS_zero, okS_succ, okL_zero, okL_succ, isIntT_int, isBoolT_bool, isStrT_str, isSlT_sl, intOf_int, boolOf_bool, strOf_str, slOf_sl, treeOf_t, srVer_sref, srOff_sref, srLen_sref, ver_row, esOf_row, cellOf_box, List.getD_cons_zero, List.getD_cons_succ, decide_true, decide_false, cnd_true, cnd_false, true_and, and_true, false_and, and_false, Option.bind_some, Option.bind_none, List.length_cons, List.length_nil, List.length_map, List.getElem?_map, Option.map_some, Option.map_none, Int.toNat_natCast, reduceCtorEq, eq_self, if_true, if_false, Nat.zero_add, Nat.reduceAdd, Nat.reduceEqDiff, Int.natCast_nonneg, List.drop_zero, or_true, true_or, or_false, false_or, Bool.not_true, Bool.not_false, Bool.false_eq_true, decide_eq_true_eq, ge_iff_le, gt_iff_lt]
    rfl
  case b =>
    refine loop_overQ (fun (r : List Event) => [Tree.sl 3 (r.map Event.enc)]) l (fun i (s : Nat × List Event × Bool) => (([.sref 0 s.1 0 s.2.1.length, .t (.bool s.2.2), .t (tI i)], [.row false s.1 3 (s.2.1.map Event.enc)]) : List AV × Heap)) (fun _ s x => .next (insS e s x)) (fun s => insFin e s.2) (fun i s => s.2.1.length ≤ 2 * i) (0, [], decide (e ∈ l)) rfl (by simp) ?_
      (fun i s x hx hI => ?_) (fun i s x s' hx hI hs' => ?_) (fun s hI => Ev.of fun n again => ?_)
    · rw [runL_fold, insS_snd]
      exact ins_run e l
    · have hi := lt_of_some hx
      obtain ⟨v, out, d⟩ := s
      simp only at hI
      cases d with
      | true =>
        refine Ev.of fun n again => ?_
        simp only [vI_mk, vB_mk, vS_mk, vL_mk, sVer_mk, sOff_mk, sLen_mk, oVer_mk, oEs_mk, cI_mk, cB_mk, cS_mk, cL_mk, cVer_mk, cOff_mk, cLen_mk, gI_zero, gI_succ, gB_zero, gB_succ, gS_zero, gS_succ, gL_zero, gL_succ, okI_zero, okI_succ, okB_zero, okB_succ, okS_zero, okS_succ, okL_zero, okL_succ, isIntT_int, isBoolT_bool, isStrT_str, isSlT_sl, intOf_int, boolOf_bool, strOf_str, slOf_sl, treeOf_t, srVer_sref, srOff_sref, srLen_sref, ver_row, esOf_row, cellOf_box, List.getD_cons_zero, List.getD_cons_succ, decide_true, decide_false, cnd_true, cnd_false, true_and, and_true, false_and, and_false, Option.bind_some, Option.bind_none, List.length_cons, List.length_nil, List.length_map, List.getElem?_map, Option.map_some, Option.map_none, Int.toNat_natCast, reduceCtorEq, eq_self, if_true, if_false, Nat.zero_add, Nat.reduceAdd, Nat.reduceEqDiff, Int.natCast_nonneg, List.drop_zero, or_true, true_or, or_false, false_or, Bool.not_true, Bool.not_false, Bool.false_eq_true, decide_eq_true_eq, ge_iff_le, gt_iff_lt, hx, Event.enc, (show (i : Int) < l.length by omega), w64_succ (show i < 4611686018427387904 by omega), Rd.go_next, insS, (show out.length + 1 ≤ 1073741824 by omega)]
        simp [Event.enc, cnd_eq]
      | false =>
        refine (s14 e x).mono fun n h again => ?_
        simp only [Event.enc, List.cons_append, List.nil_append] at h
        simp only [vI_mk, vB_mk, vS_mk, vL_mk, sVer_mk, sOff_mk, sLen_mk, oVer_mk, oEs_mk, cI_mk, cB_mk, cS_mk, cL_mk, cVer_mk, cOff_mk, cLen_mk, gI_zero, gI_succ, gB_zero, gB_succ, gS_zero, gS_succ, gL_zero, gL_succ, okI_zero, okI_succ, okB_zero, okB_succ, okS_zero, okS_succ, okL_zero, okL_succ, isIntT_int, isBoolT_bool, isStrT_str, isSlT_sl, intOf_int, boolOf_bool, strOf_str, slOf_sl, treeOf_t, srVer_sref, srOff_sref, srLen_sref, ver_row, esOf_row, cellOf_box, List.getD_cons_zero, List.getD_cons_succ, decide_true, decide_false, cnd_true, cnd_false, true_and, and_true, false_and, and_false, Option.bind_some, Option.bind_none, List.length_cons, List.length_nil, List.length_map, List.getElem?_map, Option.map_some, Option.map_none, Int.toNat_natCast, reduceCtorEq, eq_self, if_true, if_false, Nat.zero_add, Nat.reduceAdd, Nat.reduceEqDiff, Int.natCast_nonneg, List.drop_zero, or_true, true_or, or_false, false_or, Bool.not_true, Bool.not_false, Bool.false_eq_true, decide_eq_true_eq, ge_iff_le, gt_iff_lt, hx, Event.enc, h, (show (i : Int) < l.length by omega), w64_succ (show i < 4611686018427387904 by omega), Rd.go_next, insS, (show out.length + 1 ≤ 1073741824 by omega), (show out.length + 1 + 1 ≤ 1073741824 by omega), List.length_append]
        cases less e x <;> simp [Event.enc, cnd_eq]
    · simp only [Rd.next.injEq] at hs'
      subst hs'
      unfold insS
      split
      · simp; omega
      · simp; omega
    · obtain ⟨v, out, d⟩ := s
      simp only at hI
      cases d with
      | true => simp [vI_mk, vB_mk, sVer_mk, sOff_mk, sLen_mk, oVer_mk, oEs_mk, treeOf, boolOf, intOf, srVer, srOff, srLen, AObj.ver, esOf, cnd_eq, insFin, List.take_of_length_le]
      | false =>
        simp only [vI_mk, vB_mk, vS_mk, vL_mk, sVer_mk, sOff_mk, sLen_mk, oVer_mk, oEs_mk, cI_mk, cB_mk, cS_mk, cL_mk, cVer_mk, cOff_mk, cLen_mk, gI_zero, gI_succ, gB_zero, gB_succ, gS_zero, gS_succ, gL_zero, gL_succ, okI_zero, okI_succ, okB_zero, okB_succ, okS_zero, okS_succ, okL_zero, okL_succ, isIntT_int, isBoolT_bool, isStrT_str, isSlT_sl, intOf_int, boolOf_bool, strOf_str, slOf_sl, treeOf_t, srVer_sref, srOff_sref, srLen_sref, ver_row, esOf_row, cellOf_box, List.getD_cons_zero, List.getD_cons_succ, decide_true, decide_false, cnd_true, cnd_false, true_and, and_true, false_and, and_false, Option.bind_some, Option.bind_none, List.length_cons, List.length_nil, List.length_map, List.getElem?_map, Option.map_some, Option.map_none, Int.toNat_natCast, reduceCtorEq, eq_self, if_true, if_false, Nat.zero_add, Nat.reduceAdd, Nat.reduceEqDiff, Int.natCast_nonneg, List.drop_zero, or_true, true_or, or_false, false_or, Bool.not_true, Bool.not_false, Bool.false_eq_true, decide_eq_true_eq, ge_iff_le, gt_iff_lt, Int.lt_irrefl, (show out.length + 1 ≤ 1073741824 by omega), insFin]
        simp [Event.enc, List.take_of_length_le]

/-! ### Add and Remove -/
def addC (l : List Event) (e : Event) : Int := if agCheck l ≠ 0 then 1 else if validE e = false then 2 else if e ∈ l then 6 else if l.length = 1000 then 4 else 0
def addL (l : List Event) (e : Event) : List Event := if addC l e = 0 then insr e l else []
def remC (l : List Event) (e : Event) : Int := if agCheck l ≠ 0 then 1 else if e ∈ l then 0 else 7
def remL (l : List Event) (e : Event) : List Event := if remC l e = 0 then remv e l else []
theorem s22 (l : List Event) (e : Event) : Runs C 22 [.sl 3 (l.map Event.enc), tI e.time, tI e.kind, tI e.number] [.sl 3 ((addL l e).map Event.enc), tI (addC l e)] := by
  refine Runs.of (fun n => e22 n _ _ _ _) ?_
  by_cases h0 : agCheck l = 0
  · have hg := (ag_srt l).1 h0
    refine ((s25 l).and ((s33 e).and ((s44 l e (by omega)).and (s45 l e (by omega))))).mono fun n ⟨h1, h2, h3, h4⟩ => ?_
    simp only [Event.enc] at h2
    simp only [h1, h2, h3, h4, vI_mk, vB_mk, vS_mk, vL_mk, sVer_mk, sOff_mk, sLen_mk, oVer_mk, oEs_mk, cI_mk, cB_mk, cS_mk, cL_mk, cVer_mk, cOff_mk, cLen_mk, gI_zero, gI_succ, gB_zero, gB_succ, gS_zero, gS_succ, gL_zero, gL_succ, okI_zero, okI_succ, okB_zero, okB_succ, okS_zero, okS_succ, okL_zero, okL_succ, isIntT_int, isBoolT_bool, isStrT_str, isSlT_sl, intOf_int, boolOf_bool, strOf_str, slOf_sl, treeOf_t, srVer_sref, srOff_sref, srLen_sref, ver_row, esOf_row, cellOf_box, List.getD_cons_zero, List.getD_cons_succ, decide_true, decide_false, cnd_true, cnd_false, true_and, and_true, false_and, and_false, Option.bind_some, Option.bind_none, List.length_cons, List.length_nil, List.length_map, List.getElem?_map, Option.map_some, Option.map_none, Int.toNat_natCast, reduceCtorEq, eq_self, if_true, if_false, Nat.zero_add, Nat.reduceAdd, Nat.reduceEqDiff, Int.natCast_nonneg, List.drop_zero, or_true, true_or, or_false, false_or, Bool.not_true, Bool.not_false, Bool.false_eq_true, decide_eq_true_eq, ge_iff_le, gt_iff_lt, h0, bne_self_eq_false]
    unfold addL addC
    cases hv : validE e with
    | false => simp [h0, cnd_eq]
    | true =>
      by_cases hm : e ∈ l
      · simp [h0, hm, cnd_eq]
      · by_cases hlen : l.length = 1000
        · simp [h0, hm, hlen, cnd_eq]
        · have hlen' : ¬ (l.length : Int) = 1000 := by omega
          simp [h0, hm, hlen, hlen', cnd_eq, refIns, insR_eq hm]
  · refine (s25 l).mono fun n h => ?_
    simp only [h, vI_mk, vB_mk, vS_mk, vL_mk, sVer_mk, sOff_mk, sLen_mk, oVer_mk, oEs_mk, cI_mk, cB_mk, cS_mk, cL_mk, cVer_mk, cOff_mk, cLen_mk, gI_zero, gI_succ, gB_zero, gB_succ, gS_zero, gS_succ, gL_zero, gL_succ, okI_zero, okI_succ, okB_zero, okB_succ, okS_zero, okS_succ, okL_zero, okL_succ, isIntT_int, isBoolT_bool, isStrT_str, isSlT_sl, intOf_int, boolOf_bool, strOf_str, slOf_sl, treeOf_t, srVer_sref, srOff_sref, srLen_sref, ver_row, esOf_row, cellOf_box, List.getD_cons_zero, List.getD_cons_succ, decide_true, decide_false, cnd_true, cnd_false, true_and, and_true, false_and, and_false, Option.bind_some, Option.bind_none, List.length_cons, List.length_nil, List.length_map, List.getElem?_map, Option.map_some, Option.map_none, Int.toNat_natCast, reduceCtorEq, eq_self, if_true, if_false, Nat.zero_add, Nat.reduceAdd, Nat.reduceEqDiff, Int.natCast_nonneg, List.drop_zero, or_true, true_or, or_false, false_or, Bool.not_true, Bool.not_false, Bool.false_eq_true, decide_eq_true_eq, ge_iff_le, gt_iff_lt]
    rw [cnd_pos (by simp [h0])]
    simp [addL, addC, h0]
theorem s21 (l : List Event) (e : Event) : Runs C 21 [.sl 3 (l.map Event.enc), tI e.time, tI e.kind, tI e.number] [.sl 3 ((addL l e).map Event.enc), tI (addC l e)] := by
  refine Runs.of (fun n => e21 n _ _ _ _) ?_
  by_cases h0 : agCheck l = 0
  · have hg := (ag_srt l).1 h0
    refine ((s10 l).and ((s35 e).and ((s42 l e hg.2.2 hg.1).and (sClone (l.map Event.enc) (by simp; omega))))).mono fun n ⟨h1, h2, h3, h4⟩ => ?_
    simp only [Event.enc] at h2
    simp only [h1, h2, h3, h4, vI_mk, vB_mk, vS_mk, vL_mk, sVer_mk, sOff_mk, sLen_mk, oVer_mk, oEs_mk, cI_mk, cB_mk, cS_mk, cL_mk, cVer_mk, cOff_mk, cLen_mk, gI_zero, gI_succ, gB_zero, gB_succ, gS_zero, gS_succ, gL_zero, gL_succ, okI_zero, okI_succ, okB_zero, okB_succ, okS_zero, okS_succ, okL_zero, okL_succ, isIntT_int, isBoolT_bool, isStrT_str, isSlT_sl, intOf_int, boolOf_bool, strOf_str, slOf_sl, treeOf_t, srVer_sref, srOff_sref, srLen_sref, ver_row, esOf_row, cellOf_box, List.getD_cons_zero, List.getD_cons_succ, decide_true, decide_false, cnd_true, cnd_false, true_and, and_true, false_and, and_false, Option.bind_some, Option.bind_none, List.length_cons, List.length_nil, List.length_map, List.getElem?_map, Option.map_some, Option.map_none, Int.toNat_natCast, reduceCtorEq, eq_self, if_true, if_false, Nat.zero_add, Nat.reduceAdd, Nat.reduceEqDiff, Int.natCast_nonneg, List.drop_zero, or_true, true_or, or_false, false_or, Bool.not_true, Bool.not_false, Bool.false_eq_true, decide_eq_true_eq, ge_iff_le, gt_iff_lt, h0, bne_self_eq_false]
    unfold addL addC
    cases hv : validE e with
    | false => simp [h0, cnd_eq]
    | true =>
      by_cases hm : e ∈ l
      · simp [h0, hm, cnd_eq]
      · by_cases hlen : l.length = 1000
        · simp [h0, hm, hlen, cnd_eq]
        · have hlen' : ¬ (l.length : Int) = 1000 := by omega
          have hp := pos_le l e
          have hle : l.length + 1 ≤ 1073741824 := by omega
          have hpi : (pos l e : Int) ≤ l.length := by omega
          simp only [h0, hm, hlen, hlen', hle, hpi, cnd_eq, ne_eq, not_true_eq_false, not_false_eq_true, if_true, if_false, decide_false, Bool.false_eq_true, beq_iff_eq, reduceCtorEq, Bool.not_true, and_self, Nat.zero_add]
          rw [← insr_eq e hg.2.2, List.take_of_length_le (by simp; omega)]
          simp [Event.enc, List.map_take, List.map_drop]
  · refine (s10 l).mono fun n h => ?_
    simp only [h, vI_mk, vB_mk, vS_mk, vL_mk, sVer_mk, sOff_mk, sLen_mk, oVer_mk, oEs_mk, cI_mk, cB_mk, cS_mk, cL_mk, cVer_mk, cOff_mk, cLen_mk, gI_zero, gI_succ, gB_zero, gB_succ, gS_zero, gS_succ, gL_zero, gL_succ, okI_zero, okI_succ, okB_zero, okB_succ, okS_zero, okS_succ, okL_zero, okL_succ, isIntT_int, isBoolT_bool, isStrT_str, isSlT_sl, intOf_int, boolOf_bool, strOf_str, slOf_sl, treeOf_t, srVer_sref, srOff_sref, srLen_sref, ver_row, esOf_row, cellOf_box, List.getD_cons_zero, List.getD_cons_succ, decide_true, decide_false, cnd_true, cnd_false, true_and, and_true, false_and, and_false, Option.bind_some, Option.bind_none, List.length_cons, List.length_nil, List.length_map, List.getElem?_map, Option.map_some, Option.map_none, Int.toNat_natCast, reduceCtorEq, eq_self, if_true, if_false, Nat.zero_add, Nat.reduceAdd, Nat.reduceEqDiff, Int.natCast_nonneg, List.drop_zero, or_true, true_or, or_false, false_or, Bool.not_true, Bool.not_false, Bool.false_eq_true, decide_eq_true_eq, ge_iff_le, gt_iff_lt]
    rw [cnd_pos (by simp [h0])]
    simp [addL, addC, h0]
end Ab
