/- Queue: insert, Push, Pop, Remove, fresh. -/
import Derived.Test.YtblkfmemhpjbgaaQuA
set_option linter.unusedVariables false
set_option linter.unusedSimpArgs false
namespace Ab
open Go


theorem idx_cases {α : Type} (p : α → Bool) (l : List α) : (idx p l = -1 ∧ ∀ x ∈ l, p x = false) ∨ ∃ (i : Nat) (x : α), idx p l = (i : Int) ∧ l[i]? = some x ∧ p x = true ∧ ∀ (j : Nat) y, j < i → l[j]? = some y → p y = false := by
  unfold idx
  cases h : l.findIdx? p with
  | none =>
    rw [List.findIdx?_eq_none_iff] at h
    exact .inl ⟨rfl, fun x hx => by simpa using h x hx⟩
  | some j =>
    rw [List.findIdx?_eq_some_iff_getElem] at h
    obtain ⟨h1, h2, h3⟩ := h
    refine .inr ⟨j, l[j], rfl, List.getElem?_eq_getElem h1, h2, fun k y hk hy => ?_⟩
    have hkl := lt_of_some hy
    rw [List.getElem?_eq_getElem hkl] at hy
    cases hy
    simpa using h3 k hk

theorem ahead_irr (a : Entry) : ahead a a = false := by unfold ahead; simp
theorem ahead_tr {a b c : Entry} (h1 : ahead a b = true) (h2 : ahead b c = true) : ahead a c = true := by
  unfold ahead at *
  simp only [decide_eq_true_eq] at *
  omega
theorem ahead_tri {a b : Entry} (h : a.ticket ≠ b.ticket) : ahead a b = true ∨ ahead b a = true := by
  unfold ahead
  simp only [decide_eq_true_eq]
  omega
theorem ahead_asym {a b : Entry} (h : ahead a b = true) : ahead b a = false := by
  cases h2 : ahead b a with
  | false => rfl
  | true => have := ahead_tr h h2; rw [ahead_irr] at this; cases this

structure GoodQ (l : List Entry) : Prop where
  len : l.length ≤ 64
  val : ∀ x ∈ l, ValidE x
  dis : l.Pairwise fun a b => a.ticket ≠ b.ticket
  srt : l.Pairwise fun a b => ahead a b = true
theorem hasT_iff (l : List Entry) (t : Int) : hasT l t = true ↔ ∃ x ∈ l, x.ticket = t := by
  unfold hasT
  rw [List.any_eq_true]
  simp only [decide_eq_true_eq]
theorem hasT_false (l : List Entry) (t : Int) : hasT l t = false ↔ ∀ x ∈ l, x.ticket ≠ t := by
  rw [Bool.eq_false_iff, ne_eq, hasT_iff]
  simp
theorem pairwise_adj {α : Type} {R : α → α → Prop} (tr : ∀ a b c, R a b → R b c → R a c) : ∀ (l : List α), (∀ (j : Nat) a b, l[j]? = some a → l[j + 1]? = some b → R a b) → l.Pairwise R
  | [], _ => .nil
  | [a], _ => by simp
  | a :: b :: l, h => by
    have ih := pairwise_adj tr (b :: l) fun j x y hx hy => h (j + 1) x y (by simpa using hx) (by simpa using hy)
    have hab := h 0 a b rfl rfl
    rw [List.pairwise_cons]
    refine ⟨fun y hy => ?_, ih⟩
    rcases List.mem_cons.1 hy with rfl | hy
    · exact hab
    · exact tr _ _ _ hab ((List.pairwise_cons.1 ih).1 y hy)
theorem run_zero {l : List Entry} : ∀ (k i : Nat), i + k = l.length → (runL (chkStep l) (fun _ => (0 : Int)) i (l.drop i) () = 0 ↔ ∀ j x, i ≤ j → l[j]? = some x → chkStep l j () x = .next ())
  | 0, i, h => by
    have : l.drop i = [] := List.drop_eq_nil_of_le (by omega)
    rw [this]
    simp only [runL, true_iff]
    intro j x hj hx
    have := lt_of_some hx
    omega
  | k + 1, i, h => by
    have hi : i < l.length := by omega
    rw [List.drop_eq_getElem_cons hi]
    have ih := run_zero (l := l) k (i + 1) (by omega)
    have hx : l[i]? = some l[i] := List.getElem?_eq_getElem hi
    cases hs : chkStep l i () l[i] with
    | next s =>
      simp only [runL, hs]
      rw [ih]
      constructor
      · intro h j x hj hjx
        rcases Nat.eq_or_lt_of_le hj with rfl | hj
        · rw [hx] at hjx; cases hjx; exact hs
        · exact h j x hj hjx
      · intro h j x hj hjx
        exact h j x (by omega) hjx
    | done r =>
      simp only [runL, hs]
      have hr : r ≠ 0 := by
        unfold chkStep at hs
        split at hs
        · cases hs; decide
        · split at hs
          · cases hs; decide
          · split at hs
            · cases hs; decide
            · cases hs
      constructor
      · intro h; exact absurd h hr
      · intro h
        rw [h i _ (Nat.le_refl _) hx] at hs
        cases hs
theorem checkQ_zero (l : List Entry) : checkQ l = 0 ↔ GoodQ l := by
  unfold checkQ
  by_cases hl : 64 < l.length
  · rw [if_pos hl]
    constructor
    · intro h; cases h
    · intro h; have := h.len; omega
  · rw [if_neg hl]
    have key := run_zero (l := l) l.length 0 (by omega)
    rw [List.drop_zero] at key
    rw [key]
    constructor
    · intro h
      have hst : ∀ j x, l[j]? = some x → ValidE x ∧ hasT (l.take j) x.ticket = false ∧ (j ≠ 0 → ∃ y, l[j - 1]? = some y ∧ ahead y x = true) := by
        intro j x hx
        have hs := h j x (by omega) hx
        unfold chkStep at hs
        split at hs
        · cases hs
        · rename_i hv
          split at hs
          · cases hs
          · rename_i hh
            split at hs
            · cases hs
            · rename_i ha
              refine ⟨Classical.not_not.1 hv, by simpa using hh, fun hj => ?_⟩
              have hjl := lt_of_some hx
              have hp : l[j - 1]? = some l[j - 1] := List.getElem?_eq_getElem (by omega)
              refine ⟨_, hp, ?_⟩
              cases hah : ahead l[j - 1] x with
              | true => rfl
              | false => exact absurd ⟨hj, by rw [hp, Option.map_some, hah]⟩ ha
      refine ⟨by omega, fun x hx => ?_, ?_, ?_⟩
      · obtain ⟨j, hj⟩ := List.mem_iff_getElem?.1 hx
        exact (hst j x hj).1
      · rw [List.pairwise_iff_getElem]
        intro i j hi hj hij
        have := (hasT_false _ _).1 (hst j l[j] (List.getElem?_eq_getElem hj)).2.1 l[i] (List.mem_iff_getElem?.2 ⟨i, by rw [List.getElem?_take_of_lt hij]; exact List.getElem?_eq_getElem hi⟩)
        exact this
      · refine pairwise_adj (R := fun a b => ahead a b = true) (fun _ _ _ => ahead_tr) l fun j a b ha hb => ?_
        obtain ⟨y, hy, hyb⟩ := (hst (j + 1) b hb).2.2 (by omega)
        rw [Nat.add_sub_cancel, ha] at hy
        cases hy
        exact hyb
    · intro hg j x _ hx
      have hj := lt_of_some hx
      unfold chkStep
      rw [if_neg (not_not_intro (hg.val x (List.mem_of_getElem? hx)))]
      have hh : hasT (l.take j) x.ticket = false := by
        rw [hasT_false]
        intro y hy
        obtain ⟨i, hi⟩ := List.mem_iff_getElem?.1 hy
        have hij : i < j := by have := lt_of_some hi; simp at this; omega
        rw [List.getElem?_take_of_lt hij] at hi
        have := List.pairwise_iff_getElem.1 hg.dis i j (lt_of_some hi) hj hij
        rw [List.getElem?_eq_getElem (lt_of_some hi)] at hi
        rw [List.getElem?_eq_getElem hj] at hx
        rw [← Option.some.inj hi, ← Option.some.inj hx]
        exact this
      rw [hh]
      simp only [Bool.false_eq_true, if_false]
      rw [if_neg]
      rintro ⟨hj0, hm⟩
      have hp : l[j - 1]? = some l[j - 1] := List.getElem?_eq_getElem (by omega)
      rw [hp, Option.map_some] at hm
      have := List.pairwise_iff_getElem.1 hg.srt (j - 1) j (by omega) hj (by omega)
      rw [List.getElem?_eq_getElem hj] at hx
      cases hx
      rw [this] at hm
      cases hm

/-! ### insert -/
def insQ (x : Entry) (l : List Entry) : List Entry := insB (fun y => !ahead y x) x l
theorem insQ_tw (x : Entry) (l : List Entry) : insQ x l = l.takeWhile (fun y => ahead y x) ++ x :: l.dropWhile (fun y => ahead y x) := by
  unfold insQ
  rw [insB_tw]
  simp
theorem tw_all {α : Type} {p : α → Bool} : ∀ {l : List α}, (∀ y ∈ l, p y = true) → l.takeWhile p = l
  | [], _ => rfl
  | x :: l, h => by simp [h x (by simp), tw_all (l := l) fun y hy => h y (by simp [hy])]
theorem dw_all {α : Type} {p : α → Bool} : ∀ {l : List α}, (∀ y ∈ l, p y = true) → l.dropWhile p = []
  | [], _ => rfl
  | x :: l, h => by simp [h x (by simp), dw_all (l := l) fun y hy => h y (by simp [hy])]
def insStep41 (l : List Entry) (x : Entry) (i : Nat) (_ : Unit) (y : Entry) : Rd Unit (List Entry) := if ahead y x = true then .next () else .done (l.take i ++ x :: l.drop i)
theorem ins_run (l : List Entry) (x : Entry) : ∀ (k i : Nat), i + k = l.length → (∀ y ∈ l.take i, ahead y x = true) → runL (insStep41 l x) (fun _ => l ++ [x]) i (l.drop i) () = insQ x l
  | 0, i, h, ha => by
    have hd : l.drop i = [] := List.drop_eq_nil_of_le (by omega)
    have hall : ∀ y ∈ l, ahead y x = true := by rwa [List.take_of_length_le (by omega)] at ha
    rw [hd, insQ_tw]
    simp only [runL]
    have e1 : l.takeWhile (fun y => ahead y x) = l := tw_all hall
    have e2 : l.dropWhile (fun y => ahead y x) = [] := dw_all hall
    rw [e1, e2]
  | k + 1, i, h, ha => by
    have hi : i < l.length := by omega
    rw [List.drop_eq_getElem_cons hi]
    unfold insStep41
    simp only [runL]
    by_cases hx : ahead l[i] x = true
    · rw [if_pos hx]
      refine ins_run l x k (i + 1) (by omega) fun y hy => ?_
      rw [List.take_succ_eq_append_getElem hi, List.mem_append, List.mem_singleton] at hy
      rcases hy with hy | rfl
      · exact ha y hy
      · exact hx
    · rw [if_neg hx, insQ_tw]
      have e1 : l.takeWhile (fun y => ahead y x) = l.take i := by
        conv => lhs; rw [← List.take_append_drop i l]
        rw [List.takeWhile_append_of_pos ha, List.drop_eq_getElem_cons hi]
        simp only [List.takeWhile_cons, hx, if_false, List.append_nil, Bool.false_eq_true]
      have e2 : l.dropWhile (fun y => ahead y x) = l.drop i := by
        conv => lhs; rw [← List.take_append_drop i l]
        rw [List.dropWhile_append_of_pos ha, List.drop_eq_getElem_cons hi]
        simp only [List.dropWhile_cons, hx, if_false]
        rfl
      rw [e1, e2]
theorem s41 (l : List Entry) (x : Entry) (hl : l.length ≤ 1000000) : Runs C 41 (.sl 4 (l.map Entry.enc) :: x.enc) [.sl 4 ((insQ x l).map Entry.enc)] := by
  refine Runs.of (fun n => e41 n _ _ _ _ _) ?_
  refine loop_overQ (fun (r : List Entry) => [Tree.sl 4 (r.map Entry.enc)]) l (fun i (_ : Unit) => (([.sref 0 i 0 i, .t (tI i)], [.row false i 4 ((l.take i).map Entry.enc)]) : List AV × Heap)) (insStep41 l x) (fun _ => l ++ [x]) (fun _ _ => True) () rfl trivial (by have := ins_run l x l.length 0 (by omega) (by simp); rwa [List.drop_zero] at this)
    (fun i s y hy hI => ?_) (fun _ _ _ _ _ _ _ => trivial) (fun s hI => Ev.of fun n again => ?_)
  · have hi := lt_of_some hy
    have hlt : (l.take i).length = i := by simp; omega
    have e1 : List.take i ((l.take i).map Entry.enc) = (l.take i).map Entry.enc := List.take_of_length_le (by simp; omega)
    have e2 : List.take l.length (l.map Entry.enc) = l.map Entry.enc := List.take_of_length_le (by simp)
    have ht : l.take (i + 1) = l.take i ++ [y] := by rw [List.take_add_one, hy]; rfl
    have hdr : (l.drop i).length = l.length - i := by simp
    have hd0 : ¬ ((l.drop i).length = 0) := by omega
    refine (s53 y x).mono fun n h again => ?_
    simp only [Entry.enc, List.cons_append, List.nil_append] at h
    simp only [L41_2, J41_1, vI_mk, vB_mk, vS_mk, vL_mk, sVer_mk, sOff_mk, sLen_mk, oVer_mk, oEs_mk, cI_mk, cB_mk, cS_mk, cL_mk, cVer_mk, cOff_mk, cLen_mk, gI_zero, gI_succ, gB_zero, gB_succ, gS_zero, gS_succ, gL_zero, gL_succ, okI_zero, okI_succ, okB_zero, okB_succ, okS_zero, okS_succ, okL_zero, okL_succ, isIntT_int, isBoolT_bool, isStrT_str, isSlT_sl, intOf_int, boolOf_bool, strOf_str, slOf_sl, treeOf_t, srVer_sref, srOff_sref, srLen_sref, ver_row, esOf_row, cellOf_box, aI_mk, aB_mk, aS_mk, aL_mk, aggOf_agg, join_eq, List.getD_cons_zero, List.getD_cons_succ, decide_true, decide_false, cnd_true, cnd_false, true_and, and_true, false_and, and_false, Option.bind_some, Option.bind_none, List.length_cons, List.length_nil, List.length_map, List.getElem?_map, Option.map_some, Option.map_none, Int.toNat_natCast, reduceCtorEq, eq_self, if_true, if_false, Nat.zero_add, Nat.reduceAdd, Nat.reduceEqDiff, Int.natCast_nonneg, List.drop_zero, or_true, true_or, or_false, false_or, Bool.not_true, Bool.not_false, Bool.false_eq_true, decide_eq_true_eq, ge_iff_le, gt_iff_lt, hy, Entry.enc, (show (i : Int) < l.length by omega), h, hlt, Nat.le_refl, (show i + 1 ≤ 1073741824 by omega), (show (i : Int) ≤ l.length by omega), e1, e2, w64_succ (show i < 4611686018427387904 by omega), ht, List.map_append, List.map_cons, List.map_nil]
    unfold insStep41
    cases hah : ahead y x with
    | true => simp only [vI_mk, vB_mk, vS_mk, vL_mk, sVer_mk, sOff_mk, sLen_mk, oVer_mk, oEs_mk, cI_mk, cB_mk, cS_mk, cL_mk, cVer_mk, cOff_mk, cLen_mk, gI_zero, gI_succ, gB_zero, gB_succ, gS_zero, gS_succ, gL_zero, gL_succ, okI_zero, okI_succ, okB_zero, okB_succ, okS_zero, okS_succ, okL_zero, okL_succ, isIntT_int, isBoolT_bool, isStrT_str, isSlT_sl, intOf_int, boolOf_bool, strOf_str, slOf_sl, treeOf_t, srVer_sref, srOff_sref, srLen_sref, ver_row, esOf_row, cellOf_box, aI_mk, aB_mk, aS_mk, aL_mk, aggOf_agg, join_eq, List.getD_cons_zero, List.getD_cons_succ, decide_true, decide_false, cnd_true, cnd_false, true_and, and_true, false_and, and_false, Option.bind_some, Option.bind_none, List.length_cons, List.length_nil, List.length_map, List.getElem?_map, Option.map_some, Option.map_none, Int.toNat_natCast, reduceCtorEq, eq_self, if_true, if_false, Nat.zero_add, Nat.reduceAdd, Nat.reduceEqDiff, Int.natCast_nonneg, List.drop_zero, or_true, true_or, or_false, false_or, Bool.not_true, Bool.not_false, Bool.false_eq_true, decide_eq_true_eq, ge_iff_le, gt_iff_lt, Rd.go_next]
    | false =>
      have e3 : (List.drop i (l.map Entry.enc)).length = l.length - i := by simp
      have e4 : List.take (i + 1) (List.map Entry.enc (l.take i) ++ [[tI x.ticket, tI x.prio, tI x.exp, tI x.size]]) = List.map Entry.enc (l.take i) ++ [[tI x.ticket, tI x.prio, tI x.exp, tI x.size]] := List.take_of_length_le (by simp; omega)
      have e5 : List.take (i + 1 + (l.length - i)) (List.map Entry.enc (l.take i) ++ [[tI x.ticket, tI x.prio, tI x.exp, tI x.size]] ++ List.drop i (l.map Entry.enc)) = List.map Entry.enc (l.take i) ++ [[tI x.ticket, tI x.prio, tI x.exp, tI x.size]] ++ List.drop i (l.map Entry.enc) := List.take_of_length_le (by simp; omega)
      simp only [vI_mk, vB_mk, vS_mk, vL_mk, sVer_mk, sOff_mk, sLen_mk, oVer_mk, oEs_mk, cI_mk, cB_mk, cS_mk, cL_mk, cVer_mk, cOff_mk, cLen_mk, gI_zero, gI_succ, gB_zero, gB_succ, gS_zero, gS_succ, gL_zero, gL_succ, okI_zero, okI_succ, okB_zero, okB_succ, okS_zero, okS_succ, okL_zero, okL_succ, isIntT_int, isBoolT_bool, isStrT_str, isSlT_sl, intOf_int, boolOf_bool, strOf_str, slOf_sl, treeOf_t, srVer_sref, srOff_sref, srLen_sref, ver_row, esOf_row, cellOf_box, aI_mk, aB_mk, aS_mk, aL_mk, aggOf_agg, join_eq, List.getD_cons_zero, List.getD_cons_succ, decide_true, decide_false, cnd_true, cnd_false, true_and, and_true, false_and, and_false, Option.bind_some, Option.bind_none, List.length_cons, List.length_nil, List.length_map, List.getElem?_map, Option.map_some, Option.map_none, Int.toNat_natCast, reduceCtorEq, eq_self, if_true, if_false, Nat.zero_add, Nat.reduceAdd, Nat.reduceEqDiff, Int.natCast_nonneg, List.drop_zero, or_true, true_or, or_false, false_or, Bool.not_true, Bool.not_false, Bool.false_eq_true, decide_eq_true_eq, ge_iff_le, gt_iff_lt, e3, (show ¬ (l.length - i = 0) by omega), List.length_append, hlt, Nat.le_refl, (show i + 1 + (l.length - i) ≤ 1073741824 by omega), e4, e5, Rd.go_done]
      simp [Entry.enc]
  · have e1 : List.take l.length (l.map Entry.enc) = l.map Entry.enc := List.take_of_length_le (by simp)
    have e3 : (List.drop l.length (l.map Entry.enc)).length = 0 := by simp
    have e4 : List.take (l.length + 1) (List.map Entry.enc l ++ [[tI x.ticket, tI x.prio, tI x.exp, tI x.size]]) = List.map Entry.enc l ++ [[tI x.ticket, tI x.prio, tI x.exp, tI x.size]] := List.take_of_length_le (by simp)
    simp only [L41_2, J41_1, vI_mk, vB_mk, vS_mk, vL_mk, sVer_mk, sOff_mk, sLen_mk, oVer_mk, oEs_mk, cI_mk, cB_mk, cS_mk, cL_mk, cVer_mk, cOff_mk, cLen_mk, gI_zero, gI_succ, gB_zero, gB_succ, gS_zero, gS_succ, gL_zero, gL_succ, okI_zero, okI_succ, okB_zero, okB_succ, okS_zero, okS_succ, okL_zero, okL_succ, isIntT_int, isBoolT_bool, isStrT_str, isSlT_sl, intOf_int, boolOf_bool, strOf_str, slOf_sl, treeOf_t, srVer_sref, srOff_sref, srLen_sref, ver_row, esOf_row, cellOf_box, aI_mk, aB_mk, aS_mk, aL_mk, aggOf_agg, join_eq, List.getD_cons_zero, List.getD_cons_succ, decide_true, decide_false, cnd_true, cnd_false, true_and, and_true, false_and, and_false, Option.bind_some, Option.bind_none, List.length_cons, List.length_nil, List.length_map, List.getElem?_map, Option.map_some, Option.map_none, Int.toNat_natCast, reduceCtorEq, eq_self, if_true, if_false, Nat.zero_add, Nat.reduceAdd, Nat.reduceEqDiff, Int.natCast_nonneg, List.drop_zero, or_true, true_or, or_false, false_or, Bool.not_true, Bool.not_false, Bool.false_eq_true, decide_eq_true_eq, ge_iff_le, gt_iff_lt, List.take_length, Int.lt_irrefl, Nat.le_refl, (show l.length + 1 ≤ 1073741824 by omega), (show (l.length : Int) ≤ l.length by omega), e1, e3, List.length_append, Nat.lt_irrefl, (show l.length + 1 + 0 ≤ 1073741824 by omega), Nat.add_zero, e4]
    have e5 : List.drop l.length (l.map Entry.enc) = [] := List.drop_eq_nil_of_le (by simp)
    rw [e5, List.append_nil, e4]
    simp [Entry.enc]

/-! ### fresh, Remove of the reference -/
def freshQ (l : List Entry) (now : Int) : List Entry := l.filter fun x => decide (x.exp > now)
def removeQ (l : List Entry) (t : Int) : List Entry := l.filter fun x => decide (x.ticket ≠ t)
def flt (p : Entry → Bool) (s : Nat × List Entry) (x : Entry) : Nat × List Entry := if p x = true then (s.1 + 1, s.2 ++ [x]) else s
theorem flt_fold (p : Entry → Bool) : ∀ (l : List Entry) (s : Nat × List Entry), (l.foldl (flt p) s).2 = s.2 ++ l.filter p
  | [], s => by simp
  | x :: l, s => by
    rw [List.foldl_cons, flt_fold p l]
    unfold flt
    cases h : p x <;> simp [h]
theorem s42 (l : List Entry) (t : Int) (hl : l.length ≤ 1000000) : Runs C 42 [.sl 4 (l.map Entry.enc), tI t] [.sl 4 ((freshQ l t).map Entry.enc)] := by
  refine Runs.of (fun n => e42 n _ _) ?_
  have hf := flt_fold (fun x => decide (x.exp > t)) l (0, [])
  simp only [List.nil_append] at hf
  unfold freshQ
  rw [← hf]
  refine loop_overQ (fun (r : List Entry) => [Tree.sl 4 (r.map Entry.enc)]) l (fun i (s : Nat × List Entry) => (([.sref 0 s.1 0 s.2.length, .t (tI i)], [.row false s.1 4 (s.2.map Entry.enc)]) : List AV × Heap)) (fun _ s x => .next (flt (fun x => decide (x.exp > t)) s x)) (fun s => s.2) (fun i s => s.2.length ≤ i) (0, []) rfl (by simp) (runL_fold _ _ 0 l (0, []))
    (fun i s x hx hI => Ev.of fun n again => ?_) (fun i s x s' hx hI hs' => ?_) (fun s hI => Ev.of fun n again => ?_)
  · have hi := lt_of_some hx
    have e1 : List.take s.2.length (s.2.map Entry.enc) = s.2.map Entry.enc := List.take_of_length_le (by simp)
    simp only [L42_1, vI_mk, vB_mk, vS_mk, vL_mk, sVer_mk, sOff_mk, sLen_mk, oVer_mk, oEs_mk, cI_mk, cB_mk, cS_mk, cL_mk, cVer_mk, cOff_mk, cLen_mk, gI_zero, gI_succ, gB_zero, gB_succ, gS_zero, gS_succ, gL_zero, gL_succ, okI_zero, okI_succ, okB_zero, okB_succ, okS_zero, okS_succ, okL_zero, okL_succ, isIntT_int, isBoolT_bool, isStrT_str, isSlT_sl, intOf_int, boolOf_bool, strOf_str, slOf_sl, treeOf_t, srVer_sref, srOff_sref, srLen_sref, ver_row, esOf_row, cellOf_box, aI_mk, aB_mk, aS_mk, aL_mk, aggOf_agg, join_eq, List.getD_cons_zero, List.getD_cons_succ, decide_true, decide_false, cnd_true, cnd_false, true_and, and_true, false_and, and_false, Option.bind_some, Option.bind_none, List.length_cons, List.length_nil, List.length_map, List.getElem?_map, Option.map_some, Option.map_none, Int.toNat_natCast, reduceCtorEq, eq_self, if_true, if_false, Nat.zero_add, Nat.reduceAdd, Nat.reduceEqDiff, Int.natCast_nonneg, List.drop_zero, or_true, true_or, or_false, false_or, Bool.not_true, Bool.not_false, Bool.false_eq_true, decide_eq_true_eq, ge_iff_le, gt_iff_lt, hx, Entry.enc, (show (i : Int) < l.length by omega), Nat.le_refl, (show s.2.length + 1 ≤ 1073741824 by omega), e1, w64_succ (show i < 4611686018427387904 by omega), Rd.go_next]
    by_cases h : t < x.exp
    · simp [h, flt, cnd_eq, Entry.enc]
    · simp [h, flt, cnd_eq]
  · simp only [Rd.next.injEq] at hs'
    subst hs'
    have hI' : s.2.length ≤ i := hI
    unfold flt
    split
    · simp; omega
    · omega
  · have e1 : List.take s.2.length (s.2.map Entry.enc) = s.2.map Entry.enc := List.take_of_length_le (by simp)
    simp only [L42_1, vI_mk, vB_mk, vS_mk, vL_mk, sVer_mk, sOff_mk, sLen_mk, oVer_mk, oEs_mk, cI_mk, cB_mk, cS_mk, cL_mk, cVer_mk, cOff_mk, cLen_mk, gI_zero, gI_succ, gB_zero, gB_succ, gS_zero, gS_succ, gL_zero, gL_succ, okI_zero, okI_succ, okB_zero, okB_succ, okS_zero, okS_succ, okL_zero, okL_succ, isIntT_int, isBoolT_bool, isStrT_str, isSlT_sl, intOf_int, boolOf_bool, strOf_str, slOf_sl, treeOf_t, srVer_sref, srOff_sref, srLen_sref, ver_row, esOf_row, cellOf_box, aI_mk, aB_mk, aS_mk, aL_mk, aggOf_agg, join_eq, List.getD_cons_zero, List.getD_cons_succ, decide_true, decide_false, cnd_true, cnd_false, true_and, and_true, false_and, and_false, Option.bind_some, Option.bind_none, List.length_cons, List.length_nil, List.length_map, List.getElem?_map, Option.map_some, Option.map_none, Int.toNat_natCast, reduceCtorEq, eq_self, if_true, if_false, Nat.zero_add, Nat.reduceAdd, Nat.reduceEqDiff, Int.natCast_nonneg, List.drop_zero, or_true, true_or, or_false, false_or, Bool.not_true, Bool.not_false, Bool.false_eq_true, decide_eq_true_eq, ge_iff_le, gt_iff_lt, Int.lt_irrefl, e1]
theorem s30 (l : List Entry) (t : Int) (hl : l.length ≤ 1000000) : Runs C 30 [.sl 4 (l.map Entry.enc), tI t] [.sl 4 ((removeQ l t).map Entry.enc)] := by
  refine Runs.of (fun n => e30 n _ _) ?_
  have hf := flt_fold (fun x => decide (x.ticket ≠ t)) l (0, [])
  simp only [List.nil_append] at hf
  unfold removeQ
  rw [← hf]
  refine loop_overQ (fun (r : List Entry) => [Tree.sl 4 (r.map Entry.enc)]) l (fun i (s : Nat × List Entry) => (([.sref 0 s.1 0 s.2.length, .t (tI i)], [.row false s.1 4 (s.2.map Entry.enc)]) : List AV × Heap)) (fun _ s x => .next (flt (fun x => decide (x.ticket ≠ t)) s x)) (fun s => s.2) (fun i s => s.2.length ≤ i) (0, []) rfl (by simp) (runL_fold _ _ 0 l (0, []))
    (fun i s x hx hI => Ev.of fun n again => ?_) (fun i s x s' hx hI hs' => ?_) (fun s hI => Ev.of fun n again => ?_)
  · have hi := lt_of_some hx
    have e1 : List.take s.2.length (s.2.map Entry.enc) = s.2.map Entry.enc := List.take_of_length_le (by simp)
    simp only [L30_1, vI_mk, vB_mk, vS_mk, vL_mk, sVer_mk, sOff_mk, sLen_mk, oVer_mk, oEs_mk, cI_mk, cB_mk, cS_mk, cL_mk, cVer_mk, cOff_mk, cLen_mk, gI_zero, gI_succ, gB_zero, gB_succ, gS_zero, gS_succ, gL_zero, gL_succ, okI_zero, okI_succ, okB_zero, okB_succ, okS_zero, okS_succ, okL_zero, okL_succ, isIntT_int, isBoolT_bool, isStrT_str, isSlT_sl, intOf_int, boolOf_bool, strOf_str, slOf_sl, treeOf_t, srVer_sref, srOff_sref, srLen_sref, ver_row, esOf_row, cellOf_box, aI_mk, aB_mk, aS_mk, aL_mk, aggOf_agg, join_eq, List.getD_cons_zero, List.getD_cons_succ, decide_true, decide_false, cnd_true, cnd_false, true_and, and_true, false_and, and_false, Option.bind_some, Option.bind_none, List.length_cons, List.length_nil, List.length_map, List.getElem?_map, Option.map_some, Option.map_none, Int.toNat_natCast, reduceCtorEq, eq_self, if_true, if_false, Nat.zero_add, Nat.reduceAdd, Nat.reduceEqDiff, Int.natCast_nonneg, List.drop_zero, or_true, true_or, or_false, false_or, Bool.not_true, Bool.not_false, Bool.false_eq_true, decide_eq_true_eq, ge_iff_le, gt_iff_lt, hx, Entry.enc, (show (i : Int) < l.length by omega), Nat.le_refl, (show s.2.length + 1 ≤ 1073741824 by omega), e1, w64_succ (show i < 4611686018427387904 by omega), Rd.go_next, bne_iff_ne]
    by_cases h : x.ticket = t
    · simp [h, flt, cnd_eq]
    · simp [h, flt, cnd_eq, Entry.enc]
  · simp only [Rd.next.injEq] at hs'
    subst hs'
    have hI' : s.2.length ≤ i := hI
    unfold flt
    split
    · simp; omega
    · omega
  · have e1 : List.take s.2.length (s.2.map Entry.enc) = s.2.map Entry.enc := List.take_of_length_le (by simp)
    simp only [L30_1, vI_mk, vB_mk, vS_mk, vL_mk, sVer_mk, sOff_mk, sLen_mk, oVer_mk, oEs_mk, cI_mk, cB_mk, cS_mk, cL_mk, cVer_mk, cOff_mk, cLen_mk, gI_zero, gI_succ, gB_zero, gB_succ, gS_zero, gS_succ, gL_zero, gL_succ, okI_zero, okI_succ, okB_zero, okB_succ, okS_zero, okS_succ, okL_zero, okL_succ, isIntT_int, isBoolT_bool, isStrT_str, isSlT_sl, intOf_int, boolOf_bool, strOf_str, slOf_sl, treeOf_t, srVer_sref, srOff_sref, srLen_sref, ver_row, esOf_row, cellOf_box, aI_mk, aB_mk, aS_mk, aL_mk, aggOf_agg, join_eq, List.getD_cons_zero, List.getD_cons_succ, decide_true, decide_false, cnd_true, cnd_false, true_and, and_true, false_and, and_false, Option.bind_some, Option.bind_none, List.length_cons, List.length_nil, List.length_map, List.getElem?_map, Option.map_some, Option.map_none, Int.toNat_natCast, reduceCtorEq, eq_self, if_true, if_false, Nat.zero_add, Nat.reduceAdd, Nat.reduceEqDiff, Int.natCast_nonneg, List.drop_zero, or_true, true_or, or_false, false_or, Bool.not_true, Bool.not_false, Bool.false_eq_true, decide_eq_true_eq, ge_iff_le, gt_iff_lt, Int.lt_irrefl, e1]
end Ab
