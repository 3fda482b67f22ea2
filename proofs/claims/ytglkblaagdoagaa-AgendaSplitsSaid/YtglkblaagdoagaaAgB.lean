/- Agenda: the laws Pops and Parts. -/
import Derived.Test.YtglkblaagdoagaaAgA
import Derived.Test.YtglkblaagdoagaaAgY
set_option linter.unusedVariables false
set_option linter.unusedSimpArgs false
namespace Ab
open Go

def exA : List Event := [⟨5, 1, 9⟩, ⟨5, 2, 0⟩]
set_option maxRecDepth 100000 in
theorem add_ex (n : Nat) : apure C (n + 60) 21 [.sl 3 [[tI 5, tI 1, tI 9]], tI 5, tI 2, tI 0] = some [.sl 3 (exA.map Event.enc), tI 0] := by kernel_rfl

theorem s11 : Runs C 11 [] [.bool true] := by
  refine Runs.of (fun n => e11 n) ?_
  have ha : Runs C 21 [.sl 3 [[tI 5, tI 1, tI 9]], tI 5, tI 2, tI 0] [.sl 3 (exA.map Event.enc), tI 0] := Ev.add 60 (Ev.of fun n => add_ex n)
  refine (ha.and ((s17 exA 4).and ((s12 exA).and ((s20 exA exA (by decide)).and (s20 (untB exA 4) exA (by decide)))))).mono fun n ⟨h1, h2, h3, h4, h5⟩ => ?_
  have hb : untB exA 4 = exA := by decide
  have hc : untA exA 4 = [] := by decide
  have hd : untC exA = 0 := by decide
  have he : nextRes exA = (5, true) := by decide
  rw [hb] at h2 h5
  rw [hc, hd] at h2
  rw [he] at h3
  have h4' := h4
  rw [show (List.map Event.enc exA) = [[tI (5:Int), tI (1:Int), tI (9:Int)], [tI (5:Int), tI (2:Int), tI (0:Int)]] from rfl] at h1 h2 h3 h4
  simp only [h1, h2, h3, h4, vI_mk, vB_mk, vS_mk, vL_mk, sVer_mk, sOff_mk, sLen_mk, oVer_mk, oEs_mk, cI_mk, cB_mk, cS_mk, cL_mk, cVer_mk, cOff_mk, cLen_mk, gI_zero, gI_succ, gB_zero, gB_succ, gS_zero, gS_succ, gL_zero, gL_succ, okI_zero, okI_succ, okB_zero, okB_succ, okS_zero, okS_succ, okL_zero, okL_succ, isIntT_int, isBoolT_bool, isStrT_str, isSlT_sl, intOf_int, boolOf_bool, strOf_str, slOf_sl, treeOf_t, srVer_sref, srOff_sref, srLen_sref, ver_row, esOf_row, cellOf_box, List.getD_cons_zero, List.getD_cons_succ, decide_true, decide_false, cnd_true, cnd_false, true_and, and_true, false_and, and_false, Option.bind_some, Option.bind_none, List.length_cons, List.length_nil, List.length_map, List.getElem?_map, Option.map_some, Option.map_none, Int.toNat_natCast, reduceCtorEq, eq_self, if_true, if_false, Nat.zero_add, Nat.reduceAdd, Nat.reduceEqDiff, Int.natCast_nonneg, List.drop_zero, or_true, true_or, or_false, false_or, Bool.not_true, Bool.not_false, Bool.false_eq_true, decide_eq_true_eq, ge_iff_le, gt_iff_lt, List.map_nil, beq_self_eq_true]
  rfl

/-! ### what a good agenda is -/
theorem runL_zero {α : Type} {step : Nat → Unit → α → Rd Unit Int} (hd : ∀ i x r, step i () x = .done r → r ≠ 0) : ∀ (l : List α) (i : Nat), runL step (fun _ => 0) i l () = 0 → ∀ j x, l[j]? = some x → step (i + j) () x = .next ()
  | [], i, _, j, x, hx => by simp at hx
  | y :: l, i, h, j, x, hx => by
    simp only [runL] at h
    cases hs : step i () y with
    | done r => rw [hs] at h; exact (hd i y r hs h).elim
    | next s =>
      rw [hs] at h
      cases j with
      | zero => simp at hx; subst hx; exact hs
      | succ j =>
        have := runL_zero hd l (i + 1) h j x (by simpa using hx)
        rwa [show i + 1 + j = i + (j + 1) by omega] at this
theorem runL_next {α : Type} {step : Nat → Unit → α → Rd Unit Int} : ∀ (l : List α) (i : Nat), (∀ j x, l[j]? = some x → step (i + j) () x = .next ()) → runL step (fun _ => 0) i l () = 0
  | [], i, _ => rfl
  | y :: l, i, h => by
    have h0 := h 0 y rfl
    simp only [Nat.add_zero] at h0
    simp only [runL, h0]
    exact runL_next l (i + 1) fun j x hx => by
      have := h (j + 1) x (by simpa using hx)
      rwa [show i + (j + 1) = i + 1 + j by omega] at this

theorem ag_iff (l : List Event) : agCheck l = 0 ↔ l.length ≤ 1000 ∧ (∀ e ∈ l, validE e = true) ∧ ∀ (j : Nat) a b, l[j]? = some a → l[j + 1]? = some b → less a b = true := by
  constructor
  · intro h
    have hlen := check_len h
    have hn : ¬ l.length > 1000 := by omega
    rw [agCheck, if_neg hn] at h
    have hz := runL_zero (step := agStep l) (fun i x r hr => by
      simp only [agStep] at hr
      grind) l 0 h
    have hv : ∀ (j : Nat) b, l[j]? = some b → validE b = true := fun j b hb => by
      have := hz j b hb
      simp only [agStep] at this
      cases hvb : validE b with
      | true => rfl
      | false => simp [hvb] at this
    refine ⟨hlen, fun b hb => ?_, fun j a b ha hb => ?_⟩
    · obtain ⟨j, hj⟩ := List.mem_iff_getElem?.1 hb
      exact hv j b hj
    · have hb1 := hv _ _ hb
      have := hz (j + 1) b hb
      simp only [agStep, hb1, Nat.zero_add, Nat.add_sub_cancel, ha] at this
      grind
  · rintro ⟨h1, h2, h3⟩
    have hn : ¬ l.length > 1000 := by omega
    rw [agCheck, if_neg hn]
    refine runL_next l 0 fun j x hx => ?_
    have hv := h2 x (List.mem_of_getElem? hx)
    simp only [agStep, hv, Nat.zero_add]
    cases j with
    | zero => simp
    | succ j =>
      have hj := lt_of_some hx
      have ha : l[j]? = some l[j] := List.getElem?_eq_getElem (by omega)
      have := h3 j _ _ ha hx
      simp only [Nat.add_sub_cancel, ha, this]
      simp
theorem ag_drop {l : List Event} (h : agCheck l = 0) (k : Nat) : agCheck (l.drop k) = 0 := by
  rw [ag_iff] at *
  obtain ⟨h1, h2, h3⟩ := h
  refine ⟨by simp; omega, fun e he => h2 e (List.mem_of_mem_drop he), fun j a b ha hb => ?_⟩
  rw [List.getElem?_drop] at ha hb
  exact h3 (k + j) a b ha (by rwa [show k + j + 1 = k + (j + 1) by omega])

theorem law3 (l : List Event) : Runs C 3 [.sl 3 (l.map Event.enc)] [.bool true] := by
  refine Runs.of (fun n => e3 n _) ?_
  simp only [List.length_map, decide_eq_true_eq]
  by_cases h0 : l.length > 40
  · refine s11.mono fun n h => ?_
    rw [cnd_pos (by omega)]
    simp only [h, vI_mk, vB_mk, vS_mk, vL_mk, sVer_mk, sOff_mk, sLen_mk, oVer_mk, oEs_mk, cI_mk, cB_mk, cS_mk, cL_mk, cVer_mk, cOff_mk, cLen_mk, gI_zero, gI_succ, gB_zero, gB_succ, gS_zero, gS_succ, gL_zero, gL_succ, okI_zero, okI_succ, okB_zero, okB_succ, okS_zero, okS_succ, okL_zero, okL_succ, isIntT_int, isBoolT_bool, isStrT_str, isSlT_sl, intOf_int, boolOf_bool, strOf_str, slOf_sl, treeOf_t, srVer_sref, srOff_sref, srLen_sref, ver_row, esOf_row, cellOf_box, List.getD_cons_zero, List.getD_cons_succ, decide_true, decide_false, cnd_true, cnd_false, true_and, and_true, false_and, and_false, Option.bind_some, Option.bind_none, List.length_cons, List.length_nil, List.length_map, List.getElem?_map, Option.map_some, Option.map_none, Int.toNat_natCast, reduceCtorEq, eq_self, if_true, if_false, Nat.zero_add, Nat.reduceAdd, Nat.reduceEqDiff, Int.natCast_nonneg, List.drop_zero, or_true, true_or, or_false, false_or, Bool.not_true, Bool.not_false, Bool.false_eq_true, decide_eq_true_eq, ge_iff_le, gt_iff_lt]
  simp only [cnd_neg (show ¬ ((l.length : Nat) : Int) > 40 by omega)]
  by_cases hc : agCheck l = 0
  · refine Ev.rw (T' := ?T') (s10 l) (fun n h => ?g1) ?g2
    case g1 =>
      simp only [h, vI_mk, vB_mk, vS_mk, vL_mk, sVer_mk, sOff_mk, sLen_mk, oVer_mk, oEs_mk, cI_mk, cB_mk, cS_mk, cL_mk, cVer_mk, cOff_mk, cLen_mk, gI_zero, gI_succ, gB_zero, gB_succ, gS_zero, gS_succ, gL_zero, gL_succ, okI_zero, okI_succ, okB_zero, okB_succ, okS_zero, okS_succ, okL_zero, okL_succ, isIntT_int, isBoolT_bool, isStrT_str, isSlT_sl, intOf_int, boolOf_bool, strOf_str, slOf_sl, treeOf_t, srVer_sref, srOff_sref, srLen_sref, ver_row, esOf_row, cellOf_box, List.getD_cons_zero, List.getD_cons_succ, decide_true, decide_false, cnd_true, cnd_false, true_and, and_true, false_and, and_false, Option.bind_some, Option.bind_none, List.length_cons, List.length_nil, List.length_map, List.getElem?_map, Option.map_some, Option.map_none, Int.toNat_natCast, reduceCtorEq, eq_self, if_true, if_false, Nat.zero_add, Nat.reduceAdd, Nat.reduceEqDiff, Int.natCast_nonneg, List.drop_zero, or_true, true_or, or_false, false_or, Bool.not_true, Bool.not_false, Bool.false_eq_true, decide_eq_true_eq, ge_iff_le, gt_iff_lt, hc, bne_self_eq_false]
      rfl
    case g2 =>
      refine loop_overQ (fun r => [Tree.bool r]) l (fun i _ => (([.t (.sl 3 ((l.drop i).map Event.enc)), .t (tI i)], []) : List AV × Heap)) (fun i _ e => .next ()) (fun _ => true) (fun _ _ => True) () rfl trivial (runL_fold (fun _ _ => ()) (fun _ => true) 0 l ())
        (fun i s e hx hI => ?_) (fun _ _ _ _ _ _ _ => trivial) (fun s hI => ?_)
      · have hi := lt_of_some hx
        have hd : l.drop i = e :: l.drop (i + 1) := by
          rw [List.drop_eq_getElem_cons hi]
          congr 1
          rw [List.getElem?_eq_getElem hi] at hx
          exact Option.some.inj hx
        have hk := ag_drop hc i
        have hk' := ag_drop hc (i + 1)
        have ne : nextRes (l.drop i) = (e.time, true) := by unfold nextRes; rw [hk, hd]; rfl
        have pe : popE (l.drop i) = e := by unfold popE; rw [hk, hd]; rfl
        have pl : popL (l.drop i) = l.drop (i + 1) := by rw [popL, hk, hd]; rfl
        have pc : popC (l.drop i) = 0 := by rw [popC, hk, hd]; rfl
        have q12 := s12 (l.drop i)
        have q13 := s13 (l.drop i)
        rw [ne] at q12
        rw [pe, pl, pc] at q13
        have q10 := s10 (l.drop (i + 1))
        rw [hk'] at q10
        by_cases hi0 : i = 0
        · refine (q12.and (q13.and q10)).mono fun n ⟨h1, h2, h3⟩ again => ?_
          simp only [vI_mk, vB_mk, vS_mk, vL_mk, sVer_mk, sOff_mk, sLen_mk, oVer_mk, oEs_mk, cI_mk, cB_mk, cS_mk, cL_mk, cVer_mk, cOff_mk, cLen_mk, gI_zero, gI_succ, gB_zero, gB_succ, gS_zero, gS_succ, gL_zero, gL_succ, okI_zero, okI_succ, okB_zero, okB_succ, okS_zero, okS_succ, okL_zero, okL_succ, isIntT_int, isBoolT_bool, isStrT_str, isSlT_sl, intOf_int, boolOf_bool, strOf_str, slOf_sl, treeOf_t, srVer_sref, srOff_sref, srLen_sref, ver_row, esOf_row, cellOf_box, List.getD_cons_zero, List.getD_cons_succ, decide_true, decide_false, cnd_true, cnd_false, true_and, and_true, false_and, and_false, Option.bind_some, Option.bind_none, List.length_cons, List.length_nil, List.length_map, List.getElem?_map, Option.map_some, Option.map_none, Int.toNat_natCast, reduceCtorEq, eq_self, if_true, if_false, Nat.zero_add, Nat.reduceAdd, Nat.reduceEqDiff, Int.natCast_nonneg, List.drop_zero, or_true, true_or, or_false, false_or, Bool.not_true, Bool.not_false, Bool.false_eq_true, decide_eq_true_eq, ge_iff_le, gt_iff_lt, hx, Event.enc, h1, h2, h3, w64_succ (show i < 4611686018427387904 by omega), (show ((i : Nat) : Int) < l.length by omega), (show ¬ (0 : Int) < ((i : Nat) : Int) by omega), bne_self_eq_false, beq_self_eq_true, Bool.and_self, Rd.go_next]
        · have hp : l[i - 1]? = some l[i - 1] := List.getElem?_eq_getElem (by omega)
          have hlt : less l[i - 1] e = true := ((ag_iff l).1 hc).2.2 (i - 1) _ _ hp (by rwa [show i - 1 + 1 = i by omega])
          have q14 := s14 l[i - 1] e
          rw [hlt] at q14
          refine (q12.and (q13.and (q10.and q14))).mono fun n ⟨h1, h2, h3, h4⟩ again => ?_
          simp only [Event.enc, List.cons_append, List.nil_append] at h4
          simp only [vI_mk, vB_mk, vS_mk, vL_mk, sVer_mk, sOff_mk, sLen_mk, oVer_mk, oEs_mk, cI_mk, cB_mk, cS_mk, cL_mk, cVer_mk, cOff_mk, cLen_mk, gI_zero, gI_succ, gB_zero, gB_succ, gS_zero, gS_succ, gL_zero, gL_succ, okI_zero, okI_succ, okB_zero, okB_succ, okS_zero, okS_succ, okL_zero, okL_succ, isIntT_int, isBoolT_bool, isStrT_str, isSlT_sl, intOf_int, boolOf_bool, strOf_str, slOf_sl, treeOf_t, srVer_sref, srOff_sref, srLen_sref, ver_row, esOf_row, cellOf_box, List.getD_cons_zero, List.getD_cons_succ, decide_true, decide_false, cnd_true, cnd_false, true_and, and_true, false_and, and_false, Option.bind_some, Option.bind_none, List.length_cons, List.length_nil, List.length_map, List.getElem?_map, Option.map_some, Option.map_none, Int.toNat_natCast, reduceCtorEq, eq_self, if_true, if_false, Nat.zero_add, Nat.reduceAdd, Nat.reduceEqDiff, Int.natCast_nonneg, List.drop_zero, or_true, true_or, or_false, false_or, Bool.not_true, Bool.not_false, Bool.false_eq_true, decide_eq_true_eq, ge_iff_le, gt_iff_lt, hx, hp, Event.enc, h1, h2, h3, h4, w64_succ (show i < 4611686018427387904 by omega), w64_pred (show i < 4611686018427387904 by omega) (by omega), (show ((i : Nat) : Int) < l.length by omega), (show (0 : Int) < ((i : Nat) : Int) by omega), bne_self_eq_false, beq_self_eq_true, Bool.and_self, Rd.go_next]
      · have q13 := s13 []
        simp only [show popE [] = ⟨0, 0, 0⟩ from rfl, show popL [] = [] from rfl, show popC [] = 20 from rfl, List.map_nil] at q13
        refine (q13.and s11).mono fun n ⟨h1, h2⟩ again => ?_
        simp only [vI_mk, vB_mk, vS_mk, vL_mk, sVer_mk, sOff_mk, sLen_mk, oVer_mk, oEs_mk, cI_mk, cB_mk, cS_mk, cL_mk, cVer_mk, cOff_mk, cLen_mk, gI_zero, gI_succ, gB_zero, gB_succ, gS_zero, gS_succ, gL_zero, gL_succ, okI_zero, okI_succ, okB_zero, okB_succ, okS_zero, okS_succ, okL_zero, okL_succ, isIntT_int, isBoolT_bool, isStrT_str, isSlT_sl, intOf_int, boolOf_bool, strOf_str, slOf_sl, treeOf_t, srVer_sref, srOff_sref, srLen_sref, ver_row, esOf_row, cellOf_box, List.getD_cons_zero, List.getD_cons_succ, decide_true, decide_false, cnd_true, cnd_false, true_and, and_true, false_and, and_false, Option.bind_some, Option.bind_none, List.length_cons, List.length_nil, List.length_map, List.getElem?_map, Option.map_some, Option.map_none, Int.toNat_natCast, reduceCtorEq, eq_self, if_true, if_false, Nat.zero_add, Nat.reduceAdd, Nat.reduceEqDiff, Int.natCast_nonneg, List.drop_zero, or_true, true_or, or_false, false_or, Bool.not_true, Bool.not_false, Bool.false_eq_true, decide_eq_true_eq, ge_iff_le, gt_iff_lt, Int.lt_irrefl, List.drop_length, List.map_nil, h1, h2, beq_self_eq_true]
  · refine ((s10 l).and s11).mono fun n ⟨h, h2⟩ => ?_
    simp only [h, h2, vI_mk, vB_mk, vS_mk, vL_mk, sVer_mk, sOff_mk, sLen_mk, oVer_mk, oEs_mk, cI_mk, cB_mk, cS_mk, cL_mk, cVer_mk, cOff_mk, cLen_mk, gI_zero, gI_succ, gB_zero, gB_succ, gS_zero, gS_succ, gL_zero, gL_succ, okI_zero, okI_succ, okB_zero, okB_succ, okS_zero, okS_succ, okL_zero, okL_succ, isIntT_int, isBoolT_bool, isStrT_str, isSlT_sl, intOf_int, boolOf_bool, strOf_str, slOf_sl, treeOf_t, srVer_sref, srOff_sref, srLen_sref, ver_row, esOf_row, cellOf_box, List.getD_cons_zero, List.getD_cons_succ, decide_true, decide_false, cnd_true, cnd_false, true_and, and_true, false_and, and_false, Option.bind_some, Option.bind_none, List.length_cons, List.length_nil, List.length_map, List.getElem?_map, Option.map_some, Option.map_none, Int.toNat_natCast, reduceCtorEq, eq_self, if_true, if_false, Nat.zero_add, Nat.reduceAdd, Nat.reduceEqDiff, Int.natCast_nonneg, List.drop_zero, or_true, true_or, or_false, false_or, Bool.not_true, Bool.not_false, Bool.false_eq_true, decide_eq_true_eq, ge_iff_le, gt_iff_lt]
    rw [cnd_pos (by simp [hc])]

def bigE (l : List Event) : Bool := decide (l.length > 40 ∧ l.length < 1000 ∨ l.length > 1001)
theorem s39 (l : List Event) : Runs C 39 [.sl 3 (l.map Event.enc)] [.bool (bigE l)] := by
  refine Runs.of (fun n => e39 n _) (Ev.of fun n => ?_)
  simp only [tB_cnd, vI_mk, vB_mk, vS_mk, vL_mk, sVer_mk, sOff_mk, sLen_mk, oVer_mk, oEs_mk, cI_mk, cB_mk, cS_mk, cL_mk, cVer_mk, cOff_mk, cLen_mk, gI_zero, gI_succ, gB_zero, gB_succ, gS_zero, gS_succ, gL_zero, gL_succ, okI_zero, okI_succ, okB_zero, okB_succ, okS_zero, okS_succ, okL_zero, okL_succ, isIntT_int, isBoolT_bool, isStrT_str, isSlT_sl, intOf_int, boolOf_bool, strOf_str, slOf_sl, treeOf_t, srVer_sref, srOff_sref, srLen_sref, ver_row, esOf_row, cellOf_box, List.getD_cons_zero, List.getD_cons_succ, decide_true, decide_false, cnd_true, cnd_false, true_and, and_true, false_and, and_false, Option.bind_some, Option.bind_none, List.length_cons, List.length_nil, List.length_map, List.getElem?_map, Option.map_some, Option.map_none, Int.toNat_natCast, reduceCtorEq, eq_self, if_true, if_false, Nat.zero_add, Nat.reduceAdd, Nat.reduceEqDiff, Int.natCast_nonneg, List.drop_zero, or_true, true_or, or_false, false_or, Bool.not_true, Bool.not_false, Bool.false_eq_true, decide_eq_true_eq, ge_iff_le, gt_iff_lt]
  congr 3
  unfold bigE
  grind
theorem s15 (l : List Event) : Runs C 15 [.sl 1 [[.sl 3 (l.map Event.enc)]]] [.bool (bigE l)] := by
  refine Runs.of (fun n => e15 n _) ?_
  refine loop_overQ (fun r => [Tree.bool r]) [l] (fun i _ => (([.t (tI i)], []) : List AV × Heap)) (fun i _ x => if bigE x = true then .done true else .next ()) (fun _ => false) (fun _ _ => True) () rfl trivial (r := bigE l) (by cases h : bigE l <;> simp [runL, h])
    (fun i s x hx hI => ?_) (fun _ _ _ _ _ _ _ => trivial) (fun s hI => Ev.of fun n again => ?_)
  · have hi := lt_of_some hx
    obtain rfl : i = 0 := by simpa using hi
    obtain rfl : l = x := by simpa using hx
    refine (s39 l).mono fun n h again => ?_
    simp only [vI_mk, vB_mk, vS_mk, vL_mk, sVer_mk, sOff_mk, sLen_mk, oVer_mk, oEs_mk, cI_mk, cB_mk, cS_mk, cL_mk, cVer_mk, cOff_mk, cLen_mk, gI_zero, gI_succ, gB_zero, gB_succ, gS_zero, gS_succ, gL_zero, gL_succ, okI_zero, okI_succ, okB_zero, okB_succ, okS_zero, okS_succ, okL_zero, okL_succ, isIntT_int, isBoolT_bool, isStrT_str, isSlT_sl, intOf_int, boolOf_bool, strOf_str, slOf_sl, treeOf_t, srVer_sref, srOff_sref, srLen_sref, ver_row, esOf_row, cellOf_box, List.getD_cons_zero, List.getD_cons_succ, decide_true, decide_false, cnd_true, cnd_false, true_and, and_true, false_and, and_false, Option.bind_some, Option.bind_none, List.length_cons, List.length_nil, List.length_map, List.getElem?_map, Option.map_some, Option.map_none, Int.toNat_natCast, reduceCtorEq, eq_self, if_true, if_false, Nat.zero_add, Nat.reduceAdd, Nat.reduceEqDiff, Int.natCast_nonneg, List.drop_zero, or_true, true_or, or_false, false_or, Bool.not_true, Bool.not_false, Bool.false_eq_true, decide_eq_true_eq, ge_iff_le, gt_iff_lt, h, List.getElem?_cons_zero, w64_succ (show 0 < 4611686018427387904 by omega)]
    cases bigE l <;> simp [cnd_eq, Rd.go_done, Rd.go_next]
  · simp only [vI_mk, vB_mk, vS_mk, vL_mk, sVer_mk, sOff_mk, sLen_mk, oVer_mk, oEs_mk, cI_mk, cB_mk, cS_mk, cL_mk, cVer_mk, cOff_mk, cLen_mk, gI_zero, gI_succ, gB_zero, gB_succ, gS_zero, gS_succ, gL_zero, gL_succ, okI_zero, okI_succ, okB_zero, okB_succ, okS_zero, okS_succ, okL_zero, okL_succ, isIntT_int, isBoolT_bool, isStrT_str, isSlT_sl, intOf_int, boolOf_bool, strOf_str, slOf_sl, treeOf_t, srVer_sref, srOff_sref, srLen_sref, ver_row, esOf_row, cellOf_box, List.getD_cons_zero, List.getD_cons_succ, decide_true, decide_false, cnd_true, cnd_false, true_and, and_true, false_and, and_false, Option.bind_some, Option.bind_none, List.length_cons, List.length_nil, List.length_map, List.getElem?_map, Option.map_some, Option.map_none, Int.toNat_natCast, reduceCtorEq, eq_self, if_true, if_false, Nat.zero_add, Nat.reduceAdd, Nat.reduceEqDiff, Int.natCast_nonneg, List.drop_zero, or_true, true_or, or_false, false_or, Bool.not_true, Bool.not_false, Bool.false_eq_true, decide_eq_true_eq, ge_iff_le, gt_iff_lt, Int.lt_irrefl]

theorem law4 (l : List Event) (t : Int) : Runs C 4 [.sl 3 (l.map Event.enc), tI t] [.bool true] := by
  refine Runs.of (fun n => e4 n _ _) ?_
  have ub : ∀ {l : List Event} {t : Int}, (untA l t).length ≤ 1000 ∧ (untB l t).length ≤ 1000 ∧ (popL l).length ≤ 1000 := by
    intro l t
    by_cases hc : agCheck l = 0
    · have := check_len hc
      simp [untA, untB, popL, hc]
      omega
    · simp [untA, untB, popL, hc]
  refine ((s15 l).and (s11.and ((s13 l).and ((s16 l).and ((s17 l t).and ((s18 l t).and ((s12 l).and ((s19 l).and ((s20 (popL l) (popL l) (by have := (ub (l := l) (t := t)).2.2; omega)).and ((s20 (untA l t) (untA l t) (by have := (ub (l := l) (t := t)).1; omega)).and (s20 (untB l t) (untB l t) (by have := (ub (l := l) (t := t)).2.1; omega)))))))))))).mono fun n ⟨h1, h2, h3, h4, h5, h6, h7, h8, h9, h10, h11⟩ => ?_
  simp only [h1, h2, h3, h4, h5, h6, h7, h8, h9, h10, h11, vI_mk, vB_mk, vS_mk, vL_mk, sVer_mk, sOff_mk, sLen_mk, oVer_mk, oEs_mk, cI_mk, cB_mk, cS_mk, cL_mk, cVer_mk, cOff_mk, cLen_mk, gI_zero, gI_succ, gB_zero, gB_succ, gS_zero, gS_succ, gL_zero, gL_succ, okI_zero, okI_succ, okB_zero, okB_succ, okS_zero, okS_succ, okL_zero, okL_succ, isIntT_int, isBoolT_bool, isStrT_str, isSlT_sl, intOf_int, boolOf_bool, strOf_str, slOf_sl, treeOf_t, srVer_sref, srOff_sref, srLen_sref, ver_row, esOf_row, cellOf_box, List.getD_cons_zero, List.getD_cons_succ, decide_true, decide_false, cnd_true, cnd_false, true_and, and_true, false_and, and_false, Option.bind_some, Option.bind_none, List.length_cons, List.length_nil, List.length_map, List.getElem?_map, Option.map_some, Option.map_none, Int.toNat_natCast, reduceCtorEq, eq_self, if_true, if_false, Nat.zero_add, Nat.reduceAdd, Nat.reduceEqDiff, Int.natCast_nonneg, List.drop_zero, or_true, true_or, or_false, false_or, Bool.not_true, Bool.not_false, Bool.false_eq_true, decide_eq_true_eq, ge_iff_le, gt_iff_lt, beq_self_eq_true, Bool.and_self]
  cases bigE l <;> simp [cnd_eq]
end Ab
