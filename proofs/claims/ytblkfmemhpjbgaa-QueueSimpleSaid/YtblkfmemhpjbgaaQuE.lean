/- Parts of the proof: see the last text. -/
import Derived.Test.YtblkfmemhpjbgaaQuA
set_option linter.unusedVariables false
set_option linter.unusedSimpArgs false
namespace Ab
open Go


theorem idx_cases {α : Type} (p : α → Bool) (l : List α) : (idx p l = -1 ∧ ∀ x ∈ l, p x = false) ∨ ∃ (i : Nat) (x : α), idx p l = (i : Int) ∧ l[i]? = some x ∧ p x = true ∧ ∀ (j : Nat) y, j < i → l[j]? = some y → p y = false := by
  unfold idx
  cases h : l.findIdx? p with
  | none =>
    rw [List.findIdx?_eq_none_iff] at h
    exact .inl ⟨rfl, fun x hx => by simpa using h x hx⟩
  | some j =>
    rw [List.findIdx?_eq_some_iff_getElem] at h
    obtain ⟨h1, h2, h3⟩ := h
    refine .inr ⟨j, l[j], rfl, List.getElem?_eq_getElem h1, h2, fun k y hk hy => ?_⟩
    have hkl := lt_of_some hy
    rw [List.getElem?_eq_getElem hkl] at hy
    cases hy
    simpa using h3 k hk

theorem ahead_irr (a : Entry) : ahead a a = false := by unfold ahead; simp
theorem ahead_tr {a b c : Entry} (h1 : ahead a b = true) (h2 : ahead b c = true) : ahead a c = true := by
  unfold ahead at *
  simp only [decide_eq_true_eq] at *
  omega
theorem ahead_tri {a b : Entry} (h : a.ticket ≠ b.ticket) : ahead a b = true ∨ ahead b a = true := by
  unfold ahead
  simp only [decide_eq_true_eq]
  omega
theorem ahead_asym {a b : Entry} (h : ahead a b = true) : ahead b a = false := by
  cases h2 : ahead b a with
  | false => rfl
  | true => have := ahead_tr h h2; rw [ahead_irr] at this; cases this

structure GoodQ (l : List Entry) : Prop where
  len : l.length ≤ 64
  val : ∀ x ∈ l, ValidE x
  dis : l.Pairwise fun a b => a.ticket ≠ b.ticket
  srt : l.Pairwise fun a b => ahead a b = true
theorem hasT_iff (l : List Entry) (t : Int) : hasT l t = true ↔ ∃ x ∈ l, x.ticket = t := by
  unfold hasT
  rw [List.any_eq_true]
  simp only [decide_eq_true_eq]
theorem hasT_false (l : List Entry) (t : Int) : hasT l t = false ↔ ∀ x ∈ l, x.ticket ≠ t := by
  rw [Bool.eq_false_iff, ne_eq, hasT_iff]
  simp
theorem pairwise_adj {α : Type} {R : α → α → Prop} (tr : ∀ a b c, R a b → R b c → R a c) : ∀ (l : List α), (∀ (j : Nat) a b, l[j]? = some a → l[j + 1]? = some b → R a b) → l.Pairwise R
  | [], _ => .nil
  | [a], _ => by simp
  | a :: b :: l, h => by
    have ih := pairwise_adj tr (b :: l) fun j x y hx hy => h (j + 1) x y (by simpa using hx) (by simpa using hy)
    have hab := h 0 a b rfl rfl
    rw [List.pairwise_cons]
    refine ⟨fun y hy => ?_, ih⟩
    rcases List.mem_cons.1 hy with rfl | hy
    · exact hab
    · exact tr _ _ _ hab ((List.pairwise_cons.1 ih).1 y hy)
theorem run_zero {l : List Entry} : ∀ (k i : Nat), i + k = l.length → (runL (chkStep l) (fun _ => (0 : Int)) i (l.drop i) () = 0 ↔ ∀ j x, i ≤ j → l[j]? = some x → chkStep l j () x = .next ())
  | 0, i, h => by
    have : l.drop i = [] := List.drop_eq_nil_of_le (by omega)
    rw [this]
    simp only [runL, true_iff]
    intro j x hj hx
    have := lt_of_some hx
    omega
  | k + 1, i, h => by
    have hi : i < l.length := by omega
    rw [List.drop_eq_getElem_cons hi]
    have ih := run_zero (l := l) k (i + 1) (by omega)
    have hx : l[i]? = some l[i] := List.getElem?_eq_getElem hi
    cases hs : chkStep l i () l[i] with
    | next s =>
      simp only [runL, hs]
      rw [ih]
      constructor
      · intro h j x hj hjx
        rcases Nat.eq_or_lt_of_le hj with rfl | hj
        · rw [hx] at hjx; cases hjx; exact hs
        · exact h j x hj hjx
      · intro h j x hj hjx
        exact h j x (by omega) hjx
    | done r =>
      simp only [runL, hs]
      have hr : r ≠ 0 := by
        unfold chkStep at hs
        split at hs
        · cases hs; decide
        · split at hs
          · cases hs; decide
          · split at hs
            · cases hs; decide
            · cases hs
      constructor
      · intro h; exact absurd h hr
      · intro h
        rw [h i _ (Nat.le_refl _) hx] at hs
        cases hs
theorem checkQ_zero (l : List Entry) : checkQ l = 0 ↔ GoodQ l := by
  unfold checkQ
  by_cases hl : 64 < l.length
  · rw [if_pos hl]
    constructor
    · intro h; cases h
    · intro h; have := h.len; omega
  · rw [if_neg hl]
    have key := run_zero (l := l) l.length 0 (by omega)
    rw [List.drop_zero] at key
    rw [key]
    constructor
    · intro h
      have hst : ∀ j x, l[j]? = some x → ValidE x ∧ hasT (l.take j) x.ticket = false ∧ (j ≠ 0 → ∃ y, l[j - 1]? = some y ∧ ahead y x = true) := by
        intro j x hx
        have hs := h j x (by omega) hx
        unfold chkStep at hs
        split at hs
        · cases hs
        · rename_i hv
          split at hs
          · cases hs
          · rename_i hh
            split at hs
            · cases hs
            · rename_i ha
              refine ⟨Classical.not_not.1 hv, by simpa using hh, fun hj => ?_⟩
              have hjl := lt_of_some hx
              have hp : l[j - 1]? = some l[j - 1] := List.getElem?_eq_getElem (by omega)
              refine ⟨_, hp, ?_⟩
              cases hah : ahead l[j - 1] x with
              | true => rfl
              | false => exact absurd ⟨hj, by rw [hp, Option.map_some, hah]⟩ ha
      refine ⟨by omega, fun x hx => ?_, ?_, ?_⟩
      · obtain ⟨j, hj⟩ := List.mem_iff_getElem?.1 hx
        exact (hst j x hj).1
      · rw [List.pairwise_iff_getElem]
        intro i j hi hj hij
        have := (hasT_false _ _).1 (hst j l[j] (List.getElem?_eq_getElem hj)).2.1 l[i] (List.mem_iff_getElem?.2 ⟨i, by rw [List.getElem?_take_of_lt hij]; exact List.getElem?_eq_getElem hi⟩)
        exact this
      · refine pairwise_adj (R := fun a b => ahead a b = true) (fun _ _ _ => ahead_tr) l fun j a b ha hb => ?_
        obtain ⟨y, hy, hyb⟩ := (hst (j + 1) b hb).2.2 (by omega)
        rw [Nat.add_sub_cancel, ha] at hy
        cases hy
        exact hyb
    · intro hg j x _ hx
      have hj := lt_of_some hx
      unfold chkStep
      rw [if_neg (not_not_intro (hg.val x (List.mem_of_getElem? hx)))]
      have hh : hasT (l.take j) x.ticket = false := by
        rw [hasT_false]
        intro y hy
        obtain ⟨i, hi⟩ := List.mem_iff_getElem?.1 hy
        have hij : i < j := by have := lt_of_some hi; simp at this; omega
        rw [List.getElem?_take_of_lt hij] at hi
        have := List.pairwise_iff_getElem.1 hg.dis i j (lt_of_some hi) hj hij
        rw [List.getElem?_eq_getElem (lt_of_some hi)] at hi
        rw [List.getElem?_eq_getElem hj] at hx
        rw [← Option.some.inj hi, ← Option.some.inj hx]
        exact this
      rw [hh]
      simp only [Bool.false_eq_true, if_false]
      rw [if_neg]
      rintro ⟨hj0, hm⟩
      have hp : l[j - 1]? = some l[j - 1] := List.getElem?_eq_getElem (by omega)
      rw [hp, Option.map_some] at hm
      have := List.pairwise_iff_getElem.1 hg.srt (j - 1) j (by omega) hj (by omega)
      rw [List.getElem?_eq_getElem hj] at hx
      cases hx
      rw [this] at hm
      cases hm

/-! ### insert -/
def insQ (x : Entry) (l : List Entry) : List Entry := insB (fun y => !ahead y x) x l
theorem insQ_tw (x : Entry) (l : List Entry) : insQ x l = l.takeWhile (fun y => ahead y x) ++ x :: l.dropWhile (fun y => ahead y x) := by
  unfold insQ
  rw [insB_tw]
  simp
theorem tw_all {α : Type} {p : α → Bool} : ∀ {l : List α}, (∀ y ∈ l, p y = true) → l.takeWhile p = l
  | [], _ => rfl
  | x :: l, h => by simp [h x (by simp), tw_all (l := l) fun y hy => h y (by simp [hy])]
theorem dw_all {α : Type} {p : α → Bool} : ∀ {l : List α}, (∀ y ∈ l, p y = true) → l.dropWhile p = []
  | [], _ => rfl
  | x :: l, h => by simp [h x (by simp), dw_all (l := l) fun y hy => h y (by simp [hy])]
def insStep41 (l : List Entry) (x : Entry) (i : Nat) (_ : Unit) (y : Entry) : Rd Unit (List Entry) := if ahead y x = true then .next () else .done (l.take i ++ x :: l.drop i)
theorem ins_run (l : List Entry) (x : Entry) : ∀ (k i : Nat), i + k = l.length → (∀ y ∈ l.take i, ahead y x = true) → runL (insStep41 l x) (fun _ => l ++ [x]) i (l.drop i) () = insQ x l
  | 0, i, h, ha => by
    have hd : l.drop i = [] := List.drop_eq_nil_of_le (by omega)
    have hall : ∀ y ∈ l, ahead y x = true := by rwa [List.take_of_length_le (by omega)] at ha
    rw [hd, insQ_tw]
    simp only [runL]
    have e1 : l.takeWhile (fun y => ahead y x) = l := tw_all hall
    have e2 : l.dropWhile (fun y => ahead y x) = [] := dw_all hall
    rw [e1, e2]
  | k + 1, i, h, ha => by
    have hi : i < l.length := by omega
    rw [List.drop_eq_getElem_cons hi]
    unfold insStep41
    simp only [runL]
    by_cases hx : ahead l[i] x = true
    · rw [if_pos hx]
      refine ins_run l x k (i + 1) (by omega) fun y hy => ?_
      rw [List.take_succ_eq_append_getElem hi, List.mem_append, List.mem_singleton] at hy
      rcases hy with hy | rfl
      · exact ha y hy
      · exact hx
    · rw [if_neg hx, insQ_tw]
      have e1 : l.takeWhile (fun y => ahead y x) = l.take i := by
        conv => lhs; rw [← List.take_append_drop i l]
        rw [List.takeWhile_append_of_pos ha, List.drop_eq_getElem_cons hi]
        simp only [List.takeWhile_cons, hx, if_false, List.append_nil, Bool.false_eq_true]
      have e2 : l.dropWhile (fun y => ahead y x) = l.drop i := by
        conv => lhs; rw [← List.take_append_drop i l]
        rw [List.dropWhile_append_of_pos ha, List.drop_eq_getElem_cons hi]
        simp only [List.dropWhile_cons, hx, if_false]
        rfl
      rw [e1, e2]
theorem s41 (l : List Entry) (x : Entry) (hl : l.length ≤ 1000000) : Runs C 41 (.sl 4 (l.map Entry.enc) :: x.enc) [.sl 4 ((insQ x l).map Entry.enc)] := by
  refine Runs.of (fun n => e41 n _ _ _ _ _) ?_
  refine loop_overQ (fun (r : List Entry) => [Tree.sl 4 (r.map Entry.enc)]) l (fun i (_ : Unit) => (([.sref 0 i 0 i, .t (tI i)], [.row false i 4 ((l.take i).map Entry.enc)]) : List AV × Heap)) (insStep41 l x) (fun _ => l ++ [x]) (fun _ _ => True) () rfl trivial (by have := ins_run l x l.length 0 (by omega) (by simp); rwa [List.drop_zero] at this)
    (fun i s y hy hI => ?_) (fun _ _ _ _ _ _ _ => trivial) (fun s hI => Ev.of fun n again => ?_)
  · have hi := lt_of_some hy
    have hlt : (l.take i).length = i := by simp; omega
    have e1 : List.take i ((l.take i).map Entry.enc) = (l.take i).map Entry.enc := List.take_of_length_le (by simp; omega)
    have e2 : List.take l.length (l.map Entry.enc) = l.map Entry.enc := List.take_of_length_le (by simp)
    have ht : l.take (i + 1) = l.take i ++ [y] := by rw [List.take_add_one, hy]; rfl
    have hdr : (l.drop i).length = l.length - i := by simp
    have hd0 : ¬ ((l.drop i).length = 0) := by omega
    refine (s53 y x).mono fun n h again => ?_
    simp only [Entry.enc, List.cons_append, List.nil_append] at h
    simp only [L41_2, J41_1, vI_mk, vB_mk, vS_mk, vL_mk, sVer_mk, sOff_mk, sLen_mk, oVer_mk, oEs_mk, cI_mk, cB_mk, cS_mk, cL_mk, cVer_mk, cOff_mk, cLen_mk, gI_zero, gI_succ, gB_zero, gB_succ, gS_zero, gS_succ, gL_zero, gL_succ, okI_zero, okI_succ, okB_zero, okB_succ, okS_zero, okS_succ, okL_zero, okL_succ, isIntT_int, isBoolT_bool, isStrT_str, isSlT_sl, intOf_int, boolOf_bool, strOf_str, slOf_sl, treeOf_t, srVer_sref, srOff_sref, srLen_sref, ver_row, esOf_row, cellOf_box, aI_mk, aB_mk, aS_mk, aL_mk, aggOf_agg, join_eq, List.getD_cons_zero, List.getD_cons_succ, decide_true, decide_false, cnd_true, cnd_false, true_and, and_true, false_and, and_false, Option.bind_some, Option.bind_none, List.length_cons, List.length_nil, List.length_map, List.getElem?_map, Option.map_some, Option.map_none, Int.toNat_natCast, reduceCtorEq, eq_self, if_true, if_false, Nat.zero_add, Nat.reduceAdd, Nat.reduceEqDiff, Int.natCast_nonneg, List.drop_zero, or_true, true_or, or_false, false_or, Bool.not_true, Bool.not_false, Bool.false_eq_true, decide_eq_true_eq, ge_iff_le, gt_iff_lt, hy, Entry.enc, (show (i : Int) < l.length by omega), h, hlt, Nat.le_refl, (show i + 1 ≤ 1073741824 by omega), (show (i : Int) ≤ l.length by omega), e1, e2, w64_succ (show i < 4611686018427387904 by omega), ht, List.map_append, List.map_cons, List.map_nil]
    unfold insStep41
    cases hah : ahead y x with
    | true => simp only [vI_mk, vB_mk, vS_mk, vL_mk, sVer_mk, sOff_mk, sLen_mk, oVer_mk, oEs_mk, cI_mk, cB_mk, cS_mk, cL_mk, cVer_mk, cOff_mk, cLen_mk, gI_zero, gI_succ, gB_zero, gB_succ, gS_zero, gS_succ, gL_zero, gL_succ, okI_zero, okI_succ, okB_zero, okB_succ, okS_zero, okS_succ, okL_zero, okL_succ, isIntT_int, isBoolT_bool, isStrT_str, isSlT_sl, intOf_int, boolOf_bool, strOf_str, slOf_sl, treeOf_t, srVer_sref, srOff_sref, srLen_sref, ver_row, esOf_row, cellOf_box, aI_mk, aB_mk, aS_mk, aL_mk, aggOf_agg, join_eq, List.getD_cons_zero, List.getD_cons_succ, decide_true, decide_false, cnd_true, cnd_false, true_and, and_true, false_and, and_false, Option.bind_some, Option.bind_none, List.length_cons, List.length_nil, List.length_map, List.getElem?_map, Option.map_some, Option.map_none, Int.toNat_natCast, reduceCtorEq, eq_self, if_true, if_false, Nat.zero_add, Nat.reduceAdd, Nat.reduceEqDiff, Int.natCast_nonneg, List.drop_zero, or_true, true_or, or_false, false_or, Bool.not_true, Bool.not_false, Bool.false_eq_true, decide_eq_true_eq, ge_iff_le, gt_iff_lt, Rd.go_next]
    | false =>
      have e3 : (List.drop i (l.map Entry.enc)).length = l.length - i := by simp
      have e4 : List.take (i + 1) (List.map Entry.enc (l.take i) ++ [[tI x.ticket, tI x.prio, tI x.exp, tI x.size]]) = List.map Entry.enc (l.take i) ++ [[tI x.ticket, tI x.prio, tI x.exp, tI x.size]] := List.take_of_length_le (by simp; omega)
      have e5 : List.take (i + 1 + (l.length - i)) (List.map Entry.enc (l.take i) ++ [[tI x.ticket, tI x.prio, tI x.exp, tI x.size]] ++ List.drop i (l.map Entry.enc)) = List.map Entry.enc (l.take i) ++ [[tI x.ticket, tI x.prio, tI x.exp, tI x.size]] ++ List.drop i (l.map Entry.enc) := List.take_of_length_le (by simp; omega)
      simp only [vI_mk, vB_mk, vS_mk, vL_mk, sVer_mk, sOff_mk, sLen_mk, oVer_mk, oEs_mk, cI_mk, cB_mk, cS_mk, cL_mk, cVer_mk, cOff_mk, cLen_mk, gI_zero, gI_succ, gB_zero, gB_succ, gS_zero, gS_succ, gL_zero, gL_succ, okI_zero, okI_succ, okB_zero, okB_succ, okS_zero, okS_succ, okL_zero, okL_succ, isIntT_int, isBoolT_bool, isStrT_str, isSlT_sl, intOf_int, boolOf_bool, strOf_str, slOf_sl, treeOf_t, srVer_sref, srOff_sref, srLen_sref, ver_row, esOf_row, cellOf_box, aI_mk, aB_mk, aS_mk, aL_mk, aggOf_agg, join_eq, List.getD_cons_zero, List.getD_cons_succ, decide_true, decide_false, cnd_true, cnd_false, true_and, and_true, false_and, and_false, Option.bind_some, Option.bind_none, List.length_cons, List.length_nil, List.length_map, List.getElem?_map, Option.map_some, Option.map_none, Int.toNat_natCast, reduceCtorEq, eq_self, if_true, if_false, Nat.zero_add, Nat.reduceAdd, Nat.reduceEqDiff, Int.natCast_nonneg, List.drop_zero, or_true, true_or, or_false, false_or, Bool.not_true, Bool.not_false, Bool.false_eq_true, decide_eq_true_eq, ge_iff_le, gt_iff_lt, e3, (show ¬ (l.length - i = 0) by omega), List.length_append, hlt, Nat.le_refl, (show i + 1 + (l.length - i) ≤ 1073741824 by omega), e4, e5, Rd.go_done]
      simp [Entry.enc]
  · have e1 : List.take l.length (l.map Entry.enc) = l.map Entry.enc := List.take_of_length_le (by simp)
    have e3 : (List.drop l.length (l.map Entry.enc)).length = 0 := by simp
    have e4 : List.take (l.length + 1) (List.map Entry.enc l ++ [[tI x.ticket, tI x.prio, tI x.exp, tI x.size]]) = List.map Entry.enc l ++ [[tI x.ticket, tI x.prio, tI x.exp, tI x.size]] := List.take_of_length_le (by simp)
    simp only [L41_2, J41_1, vI_mk, vB_mk, vS_mk, vL_mk, sVer_mk, sOff_mk, sLen_mk, oVer_mk, oEs_mk, cI_mk, cB_mk, cS_mk, cL_mk, cVer_mk, cOff_mk, cLen_mk, gI_zero, gI_succ, gB_zero, gB_succ, gS_zero, gS_succ, gL_zero, gL_succ, okI_zero, okI_succ, okB_zero, okB_succ, okS_zero, okS_succ, okL_zero, okL_succ, isIntT_int, isBoolT_bool, isStrT_str, isSlT_sl, intOf_int, boolOf_bool, strOf_str, slOf_sl, treeOf_t, srVer_sref, srOff_sref, srLen_sref, ver_row, esOf_row, cellOf_box, aI_mk, aB_mk, aS_mk, aL_mk, aggOf_agg, join_eq, List.getD_cons_zero, List.getD_cons_succ, decide_true, decide_false, cnd_true, cnd_false, true_and, and_true, false_and, and_false, Option.bind_some, Option.bind_none, List.length_cons, List.length_nil, List.length_map, List.getElem?_map, Option.map_some, Option.map_none, Int.toNat_natCast, reduceCtorEq, eq_self, if_true, if_false, Nat.zero_add, Nat.reduceAdd, Nat.reduceEqDiff, Int.natCast_nonneg, List.drop_zero, or_true, true_or, or_false, false_or, Bool.not_true, Bool.not_false, Bool.false_eq_true, decide_eq_true_eq, ge_iff_le, gt_iff_lt, List.take_length, Int.lt_irrefl, Nat.le_refl, (show l.length + 1 ≤ 1073741824 by omega), (show (l.length : Int) ≤ l.length by omega), e1, e3, List.length_append, Nat.lt_irrefl, (show l.length + 1 + 0 ≤ 1073741824 by omega), Nat.add_zero, e4]
    have e5 : List.drop l.length (l.map Entry.enc) = [] := List.drop_eq_nil_of_le (by simp)
    rw [e5, List.append_nil, e4]
    simp [Entry.enc]

/-! ### fresh, Remove of the reference -/
def freshQ (l : List Entry) (now : Int) : List Entry := l.filter fun x => decide (x.exp > now)
def removeQ (l : List Entry) (t : Int) : List Entry := l.filter fun x => decide (x.ticket ≠ t)
def flt (p : Entry → Bool) (s : Nat × List Entry) (x : Entry) : Nat × List Entry := if p x = true then (s.1 + 1, s.2 ++ [x]) else s
theorem flt_fold (p : Entry → Bool) : ∀ (l : List Entry) (s : Nat × List Entry), (l.foldl (flt p) s).2 = s.2 ++ l.filter p
  | [], s => by simp
  | x :: l, s => by
    rw [List.foldl_cons, flt_fold p l]
    unfold flt
    cases h : p x <;> simp [h]
theorem s42 (l : List Entry) (t : Int) (hl : l.length ≤ 1000000) : Runs C 42 [.sl 4 (l.map Entry.enc), tI t] [.sl 4 ((freshQ l t).map Entry.enc)] := by
  refine Runs.of (fun n => e42 n _ _) ?_
  have hf := flt_fold (fun x => decide (x.exp > t)) l (0, [])
  simp only [List.nil_append] at hf
  unfold freshQ
  rw [← hf]
  refine loop_overQ (fun (r : List Entry) => [Tree.sl 4 (r.map Entry.enc)]) l (fun i (s : Nat × List Entry) => (([.sref 0 s.1 0 s.2.length, .t (tI i)], [.row false s.1 4 (s.2.map Entry.enc)]) : List AV × Heap)) (fun _ s x => .next (flt (fun x => decide (x.exp > t)) s x)) (fun s => s.2) (fun i s => s.2.length ≤ i) (0, []) rfl (by simp) (runL_fold _ _ 0 l (0, []))
    (fun i s x hx hI => Ev.of fun n again => ?_) (fun i s x s' hx hI hs' => ?_) (fun s hI => Ev.of fun n again => ?_)
  · have hi := lt_of_some hx
    have e1 : List.take s.2.length (s.2.map Entry.enc) = s.2.map Entry.enc := List.take_of_length_le (by simp)
    simp only [L42_1, vI_mk, vB_mk, vS_mk, vL_mk, sVer_mk, sOff_mk, sLen_mk, oVer_mk, oEs_mk, cI_mk, cB_mk, cS_mk, cL_mk, cVer_mk, cOff_mk, cLen_mk, gI_zero, gI_succ, gB_zero, gB_succ, gS_zero, gS_succ, gL_zero, gL_succ, okI_zero, okI_succ, okB_zero, okB_succ, okS_zero, okS_succ, okL_zero, okL_succ, isIntT_int, isBoolT_bool, isStrT_str, isSlT_sl, intOf_int, boolOf_bool, strOf_str, slOf_sl, treeOf_t, srVer_sref, srOff_sref, srLen_sref, ver_row, esOf_row, cellOf_box, aI_mk, aB_mk, aS_mk, aL_mk, aggOf_agg, join_eq, List.getD_cons_zero, List.getD_cons_succ, decide_true, decide_false, cnd_true, cnd_false, true_and, and_true, false_and, and_false, Option.bind_some, Option.bind_none, List.length_cons, List.length_nil, List.length_map, List.getElem?_map, Option.map_some, Option.map_none, Int.toNat_natCast, reduceCtorEq, eq_self, if_true, if_false, Nat.zero_add, Nat.reduceAdd, Nat.reduceEqDiff, Int.natCast_nonneg, List.drop_zero, or_true, true_or, or_false, false_or, Bool.not_true, Bool.not_false, Bool.false_eq_true, decide_eq_true_eq, ge_iff_le, gt_iff_lt, hx, Entry.enc, (show (i : Int) < l.length by omega), Nat.le_refl, (show s.2.length + 1 ≤ 1073741824 by omega), e1, w64_succ (show i < 4611686018427387904 by omega), Rd.go_next]
    by_cases h : t < x.exp
    · simp [h, flt, cnd_eq, Entry.enc]
    · simp [h, flt, cnd_eq]
  · simp only [Rd.next.injEq] at hs'
    subst hs'
    have hI' : s.2.length ≤ i := hI
    unfold flt
    split
    · simp; omega
    · omega
  · have e1 : List.take s.2.length (s.2.map Entry.enc) = s.2.map Entry.enc := List.take_of_length_le (by simp)
    simp only [L42_1, vI_mk, vB_mk, vS_mk, vL_mk, sVer_mk, sOff_mk, sLen_mk, oVer_mk, oEs_mk, cI_mk, cB_mk, cS_mk, cL_mk, cVer_mk, cOff_mk, cLen_mk, gI_zero, gI_succ, gB_zero, gB_succ, gS_zero, gS_succ, gL_zero, gL_succ, okI_zero, okI_succ, okB_zero, okB_succ, okS_zero, okS_succ, okL_zero, okL_succ, isIntT_int, isBoolT_bool, isStrT_str, isSlT_sl, intOf_int, boolOf_bool, strOf_str, slOf_sl, treeOf_t, srVer_sref, srOff_sref, srLen_sref, ver_row, esOf_row, cellOf_box, aI_mk, aB_mk, aS_mk, aL_mk, aggOf_agg, join_eq, List.getD_cons_zero, List.getD_cons_succ, decide_true, decide_false, cnd_true, cnd_false, true_and, and_true, false_and, and_false, Option.bind_some, Option.bind_none, List.length_cons, List.length_nil, List.length_map, List.getElem?_map, Option.map_some, Option.map_none, Int.toNat_natCast, reduceCtorEq, eq_self, if_true, if_false, Nat.zero_add, Nat.reduceAdd, Nat.reduceEqDiff, Int.natCast_nonneg, List.drop_zero, or_true, true_or, or_false, false_or, Bool.not_true, Bool.not_false, Bool.false_eq_true, decide_eq_true_eq, ge_iff_le, gt_iff_lt, Int.lt_irrefl, e1]
theorem s30 (l : List Entry) (t : Int) (hl : l.length ≤ 1000000) : Runs C 30 [.sl 4 (l.map Entry.enc), tI t] [.sl 4 ((removeQ l t).map Entry.enc)] := by
  refine Runs.of (fun n => e30 n _ _) ?_
  have hf := flt_fold (fun x => decide (x.ticket ≠ t)) l (0, [])
  simp only [List.nil_append] at hf
  unfold removeQ
  rw [← hf]
  refine loop_overQ (fun (r : List Entry) => [Tree.sl 4 (r.map Entry.enc)]) l (fun i (s : Nat × List Entry) => (([.sref 0 s.1 0 s.2.length, .t (tI i)], [.row false s.1 4 (s.2.map Entry.enc)]) : List AV × Heap)) (fun _ s x => .next (flt (fun x => decide (x.ticket ≠ t)) s x)) (fun s => s.2) (fun i s => s.2.length ≤ i) (0, []) rfl (by simp) (runL_fold _ _ 0 l (0, []))
    (fun i s x hx hI => Ev.of fun n again => ?_) (fun i s x s' hx hI hs' => ?_) (fun s hI => Ev.of fun n again => ?_)
  · have hi := lt_of_some hx
    have e1 : List.take s.2.length (s.2.map Entry.enc) = s.2.map Entry.enc := List.take_of_length_le (by simp)
    simp only [L30_1, vI_mk, vB_mk, vS_mk, vL_mk, sVer_mk, sOff_mk, sLen_mk, oVer_mk, oEs_mk, cI_mk, cB_mk, cS_mk, cL_mk, cVer_mk, cOff_mk, cLen_mk, gI_zero, gI_succ, gB_zero, gB_succ, gS_zero, gS_succ, gL_zero, gL_succ, okI_zero, okI_succ, okB_zero, okB_succ, okS_zero, okS_succ, okL_zero, okL_succ, isIntT_int, isBoolT_bool, isStrT_str, isSlT_sl, intOf_int, boolOf_bool, strOf_str, slOf_sl, treeOf_t, srVer_sref, srOff_sref, srLen_sref, ver_row, esOf_row, cellOf_box, aI_mk, aB_mk, aS_mk, aL_mk, aggOf_agg, join_eq, List.getD_cons_zero, List.getD_cons_succ, decide_true, decide_false, cnd_true, cnd_false, true_and, and_true, false_and, and_false, Option.bind_some, Option.bind_none, List.length_cons, List.length_nil, List.length_map, List.getElem?_map, Option.map_some, Option.map_none, Int.toNat_natCast, reduceCtorEq, eq_self, if_true, if_false, Nat.zero_add, Nat.reduceAdd, Nat.reduceEqDiff, Int.natCast_nonneg, List.drop_zero, or_true, true_or, or_false, false_or, Bool.not_true, Bool.not_false, Bool.false_eq_true, decide_eq_true_eq, ge_iff_le, gt_iff_lt, hx, Entry.enc, (show (i : Int) < l.length by omega), Nat.le_refl, (show s.2.length + 1 ≤ 1073741824 by omega), e1, w64_succ (show i < 4611686018427387904 by omega), Rd.go_next, bne_iff_ne]
    by_cases h : x.ticket = t
    · simp [h, flt, cnd_eq]
    · simp [h, flt, cnd_eq, Entry.enc]
  · simp only [Rd.next.injEq] at hs'
    subst hs'
    have hI' : s.2.length ≤ i := hI
    unfold flt
    split
    · simp; omega
    · omega
  · have e1 : List.take s.2.length (s.2.map Entry.enc) = s.2.map Entry.enc := List.take_of_length_le (by simp)
    simp only [L30_1, vI_mk, vB_mk, vS_mk, vL_mk, sVer_mk, sOff_mk, sLen_mk, oVer_mk, oEs_mk, cI_mk, cB_mk, cS_mk, cL_mk, cVer_mk, cOff_mk, cLen_mk, gI_zero, gI_succ, gB_zero, gB_succ, gS_zero, gS_succ, gL_zero, gL_succ, okI_zero, okI_succ, okB_zero, okB_succ, okS_zero, okS_succ, okL_zero, okL_succ, isIntT_int, isBoolT_bool, isStrT_str, isSlT_sl, intOf_int, boolOf_bool, strOf_str, slOf_sl, treeOf_t, srVer_sref, srOff_sref, srLen_sref, ver_row, esOf_row, cellOf_box, aI_mk, aB_mk, aS_mk, aL_mk, aggOf_agg, join_eq, List.getD_cons_zero, List.getD_cons_succ, decide_true, decide_false, cnd_true, cnd_false, true_and, and_true, false_and, and_false, Option.bind_some, Option.bind_none, List.length_cons, List.length_nil, List.length_map, List.getElem?_map, Option.map_some, Option.map_none, Int.toNat_natCast, reduceCtorEq, eq_self, if_true, if_false, Nat.zero_add, Nat.reduceAdd, Nat.reduceEqDiff, Int.natCast_nonneg, List.drop_zero, or_true, true_or, or_false, false_or, Bool.not_true, Bool.not_false, Bool.false_eq_true, decide_eq_true_eq, ge_iff_le, gt_iff_lt, Int.lt_irrefl, e1]
end Ab

set_option linter.unusedVariables false
set_option linter.unusedSimpArgs false
namespace Ab
open Go


/-! ### Push -/
def pushQ (l : List Entry) (x : Entry) : List Entry × Int := if checkQ l ≠ 0 then ([], 1) else if ¬ ValidE x then ([], 2) else if hasT l x.ticket = true then ([], 6) else if l.length = 64 then ([], 4) else (insQ x l, 0)
theorem down_ahead {l : List Entry} (h : l.Pairwise fun a b => ahead a b = true) (x : Entry) : Down (fun y => ahead y x) l := by
  intro i j a b hij ha hb hlt
  rcases Nat.lt_or_ge i j with hl | hl
  · have h1 := lt_of_some ha
    have h2 := lt_of_some hb
    have := List.pairwise_iff_getElem.1 h i j h1 h2 hl
    rw [List.getElem?_eq_getElem h1] at ha
    rw [List.getElem?_eq_getElem h2] at hb
    cases ha; cases hb
    exact ahead_tr this hlt
  · obtain rfl : i = j := by omega
    rw [ha] at hb
    cases hb
    exact hlt
theorem insQ_count {l : List Entry} (h : l.Pairwise fun a b => ahead a b = true) (x : Entry) : insQ x l = l.take (l.countP fun y => ahead y x) ++ x :: l.drop (l.countP fun y => ahead y x) := by
  obtain ⟨h1, h2⟩ := countP_down (down_ahead h x)
  rw [insQ_tw, h1, h2]
theorem s21 (l : List Entry) (x : Entry) (hl : l.length ≤ 1000000) : Runs C 21 (.sl 4 (l.map Entry.enc) :: x.enc) [.sl 4 ((pushQ l x).1.map Entry.enc), tI (pushQ l x).2] := by
  refine Runs.of (fun n => e21 n _ _ _ _ _) ?_
  refine ((s27 l hl).and ((s49 x).and ((s50 l x.ticket hl).and (s41 l x hl)))).mono fun n h => ?_
  obtain ⟨h1, h2, h3, h4⟩ := h
  rw [Entry.enc] at h2 h4
  unfold pushQ
  simp only [h1, h2, h3, h4, vI_mk, vB_mk, vS_mk, vL_mk, sVer_mk, sOff_mk, sLen_mk, oVer_mk, oEs_mk, cI_mk, cB_mk, cS_mk, cL_mk, cVer_mk, cOff_mk, cLen_mk, gI_zero, gI_succ, gB_zero, gB_succ, gS_zero, gS_succ, gL_zero, gL_succ, okI_zero, okI_succ, okB_zero, okB_succ, okS_zero, okS_succ, okL_zero, okL_succ, isIntT_int, isBoolT_bool, isStrT_str, isSlT_sl, intOf_int, boolOf_bool, strOf_str, slOf_sl, treeOf_t, srVer_sref, srOff_sref, srLen_sref, ver_row, esOf_row, cellOf_box, aI_mk, aB_mk, aS_mk, aL_mk, aggOf_agg, join_eq, List.getD_cons_zero, List.getD_cons_succ, decide_true, decide_false, cnd_true, cnd_false, true_and, and_true, false_and, and_false, Option.bind_some, Option.bind_none, List.length_cons, List.length_nil, List.length_map, List.getElem?_map, Option.map_some, Option.map_none, Int.toNat_natCast, reduceCtorEq, eq_self, if_true, if_false, Nat.zero_add, Nat.reduceAdd, Nat.reduceEqDiff, Int.natCast_nonneg, List.drop_zero, or_true, true_or, or_false, false_or, Bool.not_true, Bool.not_false, Bool.false_eq_true, decide_eq_true_eq, ge_iff_le, gt_iff_lt]
  by_cases c1 : checkQ l = 0
  · by_cases c2 : ValidE x
    · cases c3 : hasT l x.ticket with
      | true => simp [c1, c2, c3, cnd_eq]
      | false =>
        by_cases c4 : l.length = 64
        · simp [c1, c2, c3, c4, cnd_eq]
        · have : ((l.length : Int) == 64) = false := by simp; omega
          simp [c1, c2, c3, c4, cnd_eq, this]
    · simp [c1, c2, cnd_eq]
  · have : (checkQ l != 0) = true := by simp [c1]
    simp [c1, cnd_eq]
theorem s17 (l : List Entry) (x : Entry) (hl : l.length ≤ 1000000) : Runs C 17 (.sl 4 (l.map Entry.enc) :: x.enc) [.sl 4 ((pushQ l x).1.map Entry.enc), tI (pushQ l x).2] := by
  refine Runs.of (fun n => e17 n _ _ _ _ _) ?_
  unfold pushQ
  by_cases c1 : checkQ l = 0
  · have hg := (checkQ_zero l).1 c1
    have hlen := hg.len
    by_cases c2 : ValidE x
    · cases c3 : hasT l x.ticket with
      | true =>
        refine ((s26 l hl).and ((s43 x).and (s44 l x.ticket hl))).mono fun n h => ?_
        obtain ⟨h1, h2, h3⟩ := h
        rw [Entry.enc] at h2
        simp [h1, h2, h3, c1, c2, c3, cnd_eq, okI, okB, gI, gB, isIntT, isBoolT, intOf, boolOf]
      | false =>
        refine Ev.rw (T' := ?TT) ((s26 l hl).and ((s43 x).and (s44 l x.ticket hl))) (fun k h => ?g1) ?g2
        case g1 =>
          obtain ⟨h1, h2, h3⟩ := h
          simp only [Entry.enc] at h2
          simp only [h1, h2, h3, c1, c2, c3, vI_mk, vB_mk, vS_mk, vL_mk, sVer_mk, sOff_mk, sLen_mk, oVer_mk, oEs_mk, cI_mk, cB_mk, cS_mk, cL_mk, cVer_mk, cOff_mk, cLen_mk, gI_zero, gI_succ, gB_zero, gB_succ, gS_zero, gS_succ, gL_zero, gL_succ, okI_zero, okI_succ, okB_zero, okB_succ, okS_zero, okS_succ, okL_zero, okL_succ, isIntT_int, isBoolT_bool, isStrT_str, isSlT_sl, intOf_int, boolOf_bool, strOf_str, slOf_sl, treeOf_t, srVer_sref, srOff_sref, srLen_sref, ver_row, esOf_row, cellOf_box, aI_mk, aB_mk, aS_mk, aL_mk, aggOf_agg, join_eq, List.getD_cons_zero, List.getD_cons_succ, decide_true, decide_false, cnd_true, cnd_false, true_and, and_true, false_and, and_false, Option.bind_some, Option.bind_none, List.length_cons, List.length_nil, List.length_map, List.getElem?_map, Option.map_some, Option.map_none, Int.toNat_natCast, reduceCtorEq, eq_self, if_true, if_false, Nat.zero_add, Nat.reduceAdd, Nat.reduceEqDiff, Int.natCast_nonneg, List.drop_zero, or_true, true_or, or_false, false_or, Bool.not_true, Bool.not_false, Bool.false_eq_true, decide_eq_true_eq, ge_iff_le, gt_iff_lt, bne_self_eq_false]
          rfl
        case g2 =>
          by_cases c4 : l.length = 64
          · refine Ev.of fun n => ?_
            simp [c1, c2, c4, cnd_eq]
          · have c4' : ((l.length : Int) == 64) = false := by simp; omega
            simp only [c4', vI_mk, vB_mk, vS_mk, vL_mk, sVer_mk, sOff_mk, sLen_mk, oVer_mk, oEs_mk, cI_mk, cB_mk, cS_mk, cL_mk, cVer_mk, cOff_mk, cLen_mk, gI_zero, gI_succ, gB_zero, gB_succ, gS_zero, gS_succ, gL_zero, gL_succ, okI_zero, okI_succ, okB_zero, okB_succ, okS_zero, okS_succ, okL_zero, okL_succ, isIntT_int, isBoolT_bool, isStrT_str, isSlT_sl, intOf_int, boolOf_bool, strOf_str, slOf_sl, treeOf_t, srVer_sref, srOff_sref, srLen_sref, ver_row, esOf_row, cellOf_box, aI_mk, aB_mk, aS_mk, aL_mk, aggOf_agg, join_eq, List.getD_cons_zero, List.getD_cons_succ, decide_true, decide_false, cnd_true, cnd_false, true_and, and_true, false_and, and_false, Option.bind_some, Option.bind_none, List.length_cons, List.length_nil, List.length_map, List.getElem?_map, Option.map_some, Option.map_none, Int.toNat_natCast, reduceCtorEq, eq_self, if_true, if_false, Nat.zero_add, Nat.reduceAdd, Nat.reduceEqDiff, Int.natCast_nonneg, List.drop_zero, or_true, true_or, or_false, false_or, Bool.not_true, Bool.not_false, Bool.false_eq_true, decide_eq_true_eq, ge_iff_le, gt_iff_lt, c1, c2, c4, ne_eq, not_true]
            have key := bs_overZ (R := List Tree) (Z := List AV × Heap → Option (List Tree)) (B := fun n z p again => L17_1 n (l.map Entry.enc) x.ticket x.prio x.exp x.size z p again)
                (fun z (k : Nat) => z ([.t (tI k), .t (.bool (if k < l.length then ((l[k]?.map fun y => cmpE y x) == some 0) else false))], [])) (fun y => ahead y x) l id (fun s => (([.t (tI s.1), .t (tI s.2)], []) : List AV × Heap)) (down_ahead hg.srt x) rfl
                (fun s a1 a2 a3 => by
                  obtain ⟨a, b⟩ := s
                  simp only at a1 a2 a3
                  by_cases hab : a < b
                  · have hm : l[(a + b) / 2]? = some l[(a + b) / 2] := List.getElem?_eq_getElem (by omega)
                    refine (s46 l[(a + b) / 2] x).mono fun n h z again => ?_
                    simp only [Entry.enc, List.cons_append, List.nil_append] at h
                    simp only [L17_1, vI_mk, vB_mk, vS_mk, vL_mk, sVer_mk, sOff_mk, sLen_mk, oVer_mk, oEs_mk, cI_mk, cB_mk, cS_mk, cL_mk, cVer_mk, cOff_mk, cLen_mk, gI_zero, gI_succ, gB_zero, gB_succ, gS_zero, gS_succ, gL_zero, gL_succ, okI_zero, okI_succ, okB_zero, okB_succ, okS_zero, okS_succ, okL_zero, okL_succ, isIntT_int, isBoolT_bool, isStrT_str, isSlT_sl, intOf_int, boolOf_bool, strOf_str, slOf_sl, treeOf_t, srVer_sref, srOff_sref, srLen_sref, ver_row, esOf_row, cellOf_box, aI_mk, aB_mk, aS_mk, aL_mk, aggOf_agg, join_eq, List.getD_cons_zero, List.getD_cons_succ, decide_true, decide_false, cnd_true, cnd_false, true_and, and_true, false_and, and_false, Option.bind_some, Option.bind_none, List.length_cons, List.length_nil, List.length_map, List.getElem?_map, Option.map_some, Option.map_none, Int.toNat_natCast, reduceCtorEq, eq_self, if_true, if_false, Nat.zero_add, Nat.reduceAdd, Nat.reduceEqDiff, Int.natCast_nonneg, List.drop_zero, or_true, true_or, or_false, false_or, Bool.not_true, Bool.not_false, Bool.false_eq_true, decide_eq_true_eq, ge_iff_le, gt_iff_lt, halfU a b (by omega), hm, Entry.enc, (show (a : Int) < (b : Int) by omega), bsStep, if_pos hab, w64_succ (show (a + b) / 2 < 4611686018427387904 by omega), h, cmpE_neg]
                    cases hx : ahead l[(a + b) / 2] x <;> simp [cnd_eq, Rd.go_next]
                  · obtain rfl : a = b := by omega
                    by_cases hal : a < l.length
                    · have hm : l[a]? = some l[a] := List.getElem?_eq_getElem hal
                      refine (s46 l[a] x).mono fun n h z again => ?_
                      simp only [Entry.enc, List.cons_append, List.nil_append] at h
                      simp only [L17_1, vI_mk, vB_mk, vS_mk, vL_mk, sVer_mk, sOff_mk, sLen_mk, oVer_mk, oEs_mk, cI_mk, cB_mk, cS_mk, cL_mk, cVer_mk, cOff_mk, cLen_mk, gI_zero, gI_succ, gB_zero, gB_succ, gS_zero, gS_succ, gL_zero, gL_succ, okI_zero, okI_succ, okB_zero, okB_succ, okS_zero, okS_succ, okL_zero, okL_succ, isIntT_int, isBoolT_bool, isStrT_str, isSlT_sl, intOf_int, boolOf_bool, strOf_str, slOf_sl, treeOf_t, srVer_sref, srOff_sref, srLen_sref, ver_row, esOf_row, cellOf_box, aI_mk, aB_mk, aS_mk, aL_mk, aggOf_agg, join_eq, List.getD_cons_zero, List.getD_cons_succ, decide_true, decide_false, cnd_true, cnd_false, true_and, and_true, false_and, and_false, Option.bind_some, Option.bind_none, List.length_cons, List.length_nil, List.length_map, List.getElem?_map, Option.map_some, Option.map_none, Int.toNat_natCast, reduceCtorEq, eq_self, if_true, if_false, Nat.zero_add, Nat.reduceAdd, Nat.reduceEqDiff, Int.natCast_nonneg, List.drop_zero, or_true, true_or, or_false, false_or, Bool.not_true, Bool.not_false, Bool.false_eq_true, decide_eq_true_eq, ge_iff_le, gt_iff_lt, Int.lt_irrefl, hm, Entry.enc, (show (a : Int) < (l.length : Int) by omega), bsStep, Nat.lt_irrefl, h, Rd.go_done, id, hal]
                      congr 5
                    · refine Ev.of fun n z again => ?_
                      simp only [L17_1, vI_mk, vB_mk, vS_mk, vL_mk, sVer_mk, sOff_mk, sLen_mk, oVer_mk, oEs_mk, cI_mk, cB_mk, cS_mk, cL_mk, cVer_mk, cOff_mk, cLen_mk, gI_zero, gI_succ, gB_zero, gB_succ, gS_zero, gS_succ, gL_zero, gL_succ, okI_zero, okI_succ, okB_zero, okB_succ, okS_zero, okS_succ, okL_zero, okL_succ, isIntT_int, isBoolT_bool, isStrT_str, isSlT_sl, intOf_int, boolOf_bool, strOf_str, slOf_sl, treeOf_t, srVer_sref, srOff_sref, srLen_sref, ver_row, esOf_row, cellOf_box, aI_mk, aB_mk, aS_mk, aL_mk, aggOf_agg, join_eq, List.getD_cons_zero, List.getD_cons_succ, decide_true, decide_false, cnd_true, cnd_false, true_and, and_true, false_and, and_false, Option.bind_some, Option.bind_none, List.length_cons, List.length_nil, List.length_map, List.getElem?_map, Option.map_some, Option.map_none, Int.toNat_natCast, reduceCtorEq, eq_self, if_true, if_false, Nat.zero_add, Nat.reduceAdd, Nat.reduceEqDiff, Int.natCast_nonneg, List.drop_zero, or_true, true_or, or_false, false_or, Bool.not_true, Bool.not_false, Bool.false_eq_true, decide_eq_true_eq, ge_iff_le, gt_iff_lt, Int.lt_irrefl, (show ¬ (a : Int) < (l.length : Int) by omega), bsStep, Nat.lt_irrefl, Rd.go_done, id, hal])
            refine ((s1000048 (l.map Entry.enc) (by simp; omega)).and key).mono fun n h => ?_
            obtain ⟨h1, h2⟩ := h
            simp only [id, Int.natCast_zero] at h2
            have hk : l.countP (fun y => ahead y x) ≤ l.length := List.countP_le_length
            simp only [join_eq, h2, id, J17_2, h1, vI_mk, vB_mk, vS_mk, vL_mk, sVer_mk, sOff_mk, sLen_mk, oVer_mk, oEs_mk, cI_mk, cB_mk, cS_mk, cL_mk, cVer_mk, cOff_mk, cLen_mk, gI_zero, gI_succ, gB_zero, gB_succ, gS_zero, gS_succ, gL_zero, gL_succ, okI_zero, okI_succ, okB_zero, okB_succ, okS_zero, okS_succ, okL_zero, okL_succ, isIntT_int, isBoolT_bool, isStrT_str, isSlT_sl, intOf_int, boolOf_bool, strOf_str, slOf_sl, treeOf_t, srVer_sref, srOff_sref, srLen_sref, ver_row, esOf_row, cellOf_box, aI_mk, aB_mk, aS_mk, aL_mk, aggOf_agg, join_eq, List.getD_cons_zero, List.getD_cons_succ, decide_true, decide_false, cnd_true, cnd_false, true_and, and_true, false_and, and_false, Option.bind_some, Option.bind_none, List.length_cons, List.length_nil, List.length_map, List.getElem?_map, Option.map_some, Option.map_none, Int.toNat_natCast, reduceCtorEq, eq_self, if_true, if_false, Nat.zero_add, Nat.reduceAdd, Nat.reduceEqDiff, Int.natCast_nonneg, List.drop_zero, or_true, true_or, or_false, false_or, Bool.not_true, Bool.not_false, Bool.false_eq_true, decide_eq_true_eq, ge_iff_le, gt_iff_lt, (show l.length + 1 ≤ 1073741824 by omega), (show ((l.countP fun y => ahead y x : Nat) : Int) ≤ (l.length : Int) by omega), insQ_count hg.srt x]
            have e1 : List.take (l.length + 1) (List.take (l.countP fun y => ahead y x) (l.map Entry.enc) ++ [[tI x.ticket, tI x.prio, tI x.exp, tI x.size]] ++ List.drop (l.countP fun y => ahead y x) (l.map Entry.enc)) = List.take (l.countP fun y => ahead y x) (l.map Entry.enc) ++ [[tI x.ticket, tI x.prio, tI x.exp, tI x.size]] ++ List.drop (l.countP fun y => ahead y x) (l.map Entry.enc) := List.take_of_length_le (by simp; omega)
            rw [e1]
            simp [Entry.enc]
    · refine ((s26 l hl).and (s43 x)).mono fun n h => ?_
      obtain ⟨h1, h2⟩ := h
      rw [Entry.enc] at h2
      simp [h1, h2, c1, c2, cnd_eq, okI, okB, gI, gB, isIntT, isBoolT, intOf, boolOf]
  · refine (s26 l hl).mono fun n h1 => ?_
    simp only [h1, vI_mk, vB_mk, vS_mk, vL_mk, sVer_mk, sOff_mk, sLen_mk, oVer_mk, oEs_mk, cI_mk, cB_mk, cS_mk, cL_mk, cVer_mk, cOff_mk, cLen_mk, gI_zero, gI_succ, gB_zero, gB_succ, gS_zero, gS_succ, gL_zero, gL_succ, okI_zero, okI_succ, okB_zero, okB_succ, okS_zero, okS_succ, okL_zero, okL_succ, isIntT_int, isBoolT_bool, isStrT_str, isSlT_sl, intOf_int, boolOf_bool, strOf_str, slOf_sl, treeOf_t, srVer_sref, srOff_sref, srLen_sref, ver_row, esOf_row, cellOf_box, aI_mk, aB_mk, aS_mk, aL_mk, aggOf_agg, join_eq, List.getD_cons_zero, List.getD_cons_succ, decide_true, decide_false, cnd_true, cnd_false, true_and, and_true, false_and, and_false, Option.bind_some, Option.bind_none, List.length_cons, List.length_nil, List.length_map, List.getElem?_map, Option.map_some, Option.map_none, Int.toNat_natCast, reduceCtorEq, eq_self, if_true, if_false, Nat.zero_add, Nat.reduceAdd, Nat.reduceEqDiff, Int.natCast_nonneg, List.drop_zero, or_true, true_or, or_false, false_or, Bool.not_true, Bool.not_false, Bool.false_eq_true, decide_eq_true_eq, ge_iff_le, gt_iff_lt]
    simp [c1, cnd_eq]

/-! ### deletions -/
/-- The search ahead of a deletion. -/
theorem rowTail {es : List Entry} {i : Nat} {L : Nat} (h : es.length = L) (hi : i ≤ L) : List.take i (rowSet (es.map Entry.enc) i (List.replicate (L - i) [tI 0, tI 0, tI 0, tI 0])) = (es.take i).map Entry.enc := by
  rw [rowSet_keep _ _ _ _ (Nat.le_refl i) (by simp; omega), List.map_take]
theorem rowLen {es : List Entry} {i : Nat} {L : Nat} (h : es.length = L) (hi : i ≤ L) : (rowSet (es.map Entry.enc) i (List.replicate (L - i) [tI 0, tI 0, tI 0, tI 0])).length = L := by
  rw [rowSet_len _ _ _ (by simp; omega)]; simp [h]
theorem s29 (l : List Entry) (t : Int) (hl : l.length ≤ 1000000) : Runs C 29 [.sl 4 (l.map Entry.enc), tI t] [.sl 4 ((removeQ l t).map Entry.enc)] := by
  refine Runs.of (fun n => e29 n _ _) ?_
  have k1 := loop_overZ (R := List Tree) (Z := List AV × Heap → Option (List Tree)) (B := fun n z p again => L29_1 n [.sl 4 (l.map Entry.enc)] t z p again) (s := (([.t (tI 0)], [.row false 0 4 (l.map Entry.enc)]) : List AV × Heap)) l (fun i (_ : Unit) => (([.t (tI i)], [.row false 0 4 (l.map Entry.enc)]) : List AV × Heap))
    (fun i _ x => if decide (x.ticket = t) = true then .done (i : Int) else .next ()) (fun _ => -1) (fun z (q : Int) => z ([.t (tI q)], [.row false 0 4 (l.map Entry.enc)])) (fun _ _ => True) () rfl trivial (find_run0 _ l)
    (fun i s x hx hI => Ev.of fun n z again => ?_) (fun _ _ _ _ _ _ _ => trivial) (fun s hI => Ev.of fun n z again => ?_)
  · have hfe : removeQ l t = l.filter fun x => !decide (x.ticket = t) := by unfold removeQ; congr 1; funext x; simp
    rw [hfe]
    rcases idx_cases (fun x : Entry => decide (x.ticket = t)) l with ⟨hi, hn⟩ | ⟨i, x, hi, hx, hp, hb⟩
    · rw [hi] at k1
      refine ((s1000048 (l.map Entry.enc) (by simp; omega)).and k1).mono fun n h => ?_
      simp only [h.1, h.2, vI_mk, vB_mk, vS_mk, vL_mk, sVer_mk, sOff_mk, sLen_mk, oVer_mk, oEs_mk, cI_mk, cB_mk, cS_mk, cL_mk, cVer_mk, cOff_mk, cLen_mk, gI_zero, gI_succ, gB_zero, gB_succ, gS_zero, gS_succ, gL_zero, gL_succ, okI_zero, okI_succ, okB_zero, okB_succ, okS_zero, okS_succ, okL_zero, okL_succ, isIntT_int, isBoolT_bool, isStrT_str, isSlT_sl, intOf_int, boolOf_bool, strOf_str, slOf_sl, treeOf_t, srVer_sref, srOff_sref, srLen_sref, ver_row, esOf_row, cellOf_box, aI_mk, aB_mk, aS_mk, aL_mk, aggOf_agg, join_eq, List.getD_cons_zero, List.getD_cons_succ, decide_true, decide_false, cnd_true, cnd_false, true_and, and_true, false_and, and_false, Option.bind_some, Option.bind_none, List.length_cons, List.length_nil, List.length_map, List.getElem?_map, Option.map_some, Option.map_none, Int.toNat_natCast, reduceCtorEq, eq_self, if_true, if_false, Nat.zero_add, Nat.reduceAdd, Nat.reduceEqDiff, Int.natCast_nonneg, List.drop_zero, or_true, true_or, or_false, false_or, Bool.not_true, Bool.not_false, Bool.false_eq_true, decide_eq_true_eq, ge_iff_le, gt_iff_lt, J29_3, beq_self_eq_true]
      have e1 : List.take l.length (l.map Entry.enc) = l.map Entry.enc := List.take_of_length_le (by simp)
      have e2 : l.filter (fun x => !decide (x.ticket = t)) = l := filter_none fun j y _ hy => hn y (List.mem_of_getElem? hy)
      rw [e1, e2]
    · rw [hi] at k1
      have hil := lt_of_some hx
      have k2 := del_over (R := List Tree) (B := fun n p again => L29_2 n [.sl 4 (l.map Entry.enc)] t p again) (fun (r : List Entry) => [Tree.sl 4 (r.map Entry.enc)]) (fun x => decide (x.ticket = t)) l (fun (s : DS Entry) => (([.t (tI s.i), .t (tI s.j)], [.row false 0 4 (s.es.map Entry.enc)]) : List AV × Heap)) ⟨i, i + 1, l⟩ rfl (DInv.start hx hp hb) (fun s hD => Ev.of fun n again => ?_)
      · refine ((s1000048 (l.map Entry.enc) (by simp; omega)).and (k1.and k2)).mono fun n h => ?_
        obtain ⟨h1, h2, h3⟩ := h
        simp only [h1, h2, vI_mk, vB_mk, vS_mk, vL_mk, sVer_mk, sOff_mk, sLen_mk, oVer_mk, oEs_mk, cI_mk, cB_mk, cS_mk, cL_mk, cVer_mk, cOff_mk, cLen_mk, gI_zero, gI_succ, gB_zero, gB_succ, gS_zero, gS_succ, gL_zero, gL_succ, okI_zero, okI_succ, okB_zero, okB_succ, okS_zero, okS_succ, okL_zero, okL_succ, isIntT_int, isBoolT_bool, isStrT_str, isSlT_sl, intOf_int, boolOf_bool, strOf_str, slOf_sl, treeOf_t, srVer_sref, srOff_sref, srLen_sref, ver_row, esOf_row, cellOf_box, aI_mk, aB_mk, aS_mk, aL_mk, aggOf_agg, join_eq, List.getD_cons_zero, List.getD_cons_succ, decide_true, decide_false, cnd_true, cnd_false, true_and, and_true, false_and, and_false, Option.bind_some, Option.bind_none, List.length_cons, List.length_nil, List.length_map, List.getElem?_map, Option.map_some, Option.map_none, Int.toNat_natCast, reduceCtorEq, eq_self, if_true, if_false, Nat.zero_add, Nat.reduceAdd, Nat.reduceEqDiff, Int.natCast_nonneg, List.drop_zero, or_true, true_or, or_false, false_or, Bool.not_true, Bool.not_false, Bool.false_eq_true, decide_eq_true_eq, ge_iff_le, gt_iff_lt, J29_3, (show (((i : Nat) : Int) == -1) = false by simp), w64_succ (show i < 4611686018427387904 by omega)]
        exact h3
      · have hat := hD.at
        obtain ⟨i', j, es⟩ := s
        obtain ⟨d1, d2, d3, d4, d5⟩ := hD
        simp only at d1 d2 d3 d4 d5 hat
        unfold dstep
        simp only
        cases hy : l[j]? with
        | none =>
          have hj : l.length ≤ j := by simpa using hy
          simp only [L29_2, vI_mk, vB_mk, vS_mk, vL_mk, sVer_mk, sOff_mk, sLen_mk, oVer_mk, oEs_mk, cI_mk, cB_mk, cS_mk, cL_mk, cVer_mk, cOff_mk, cLen_mk, gI_zero, gI_succ, gB_zero, gB_succ, gS_zero, gS_succ, gL_zero, gL_succ, okI_zero, okI_succ, okB_zero, okB_succ, okS_zero, okS_succ, okL_zero, okL_succ, isIntT_int, isBoolT_bool, isStrT_str, isSlT_sl, intOf_int, boolOf_bool, strOf_str, slOf_sl, treeOf_t, srVer_sref, srOff_sref, srLen_sref, ver_row, esOf_row, cellOf_box, aI_mk, aB_mk, aS_mk, aL_mk, aggOf_agg, join_eq, List.getD_cons_zero, List.getD_cons_succ, decide_true, decide_false, cnd_true, cnd_false, true_and, and_true, false_and, and_false, Option.bind_some, Option.bind_none, List.length_cons, List.length_nil, List.length_map, List.getElem?_map, Option.map_some, Option.map_none, Int.toNat_natCast, reduceCtorEq, eq_self, if_true, if_false, Nat.zero_add, Nat.reduceAdd, Nat.reduceEqDiff, Int.natCast_nonneg, List.drop_zero, or_true, true_or, or_false, false_or, Bool.not_true, Bool.not_false, Bool.false_eq_true, decide_eq_true_eq, ge_iff_le, gt_iff_lt, (show ¬ (j : Int) < (l.length : Int) by omega), d3, (show (i' : Int) ≤ (l.length : Int) by omega), (show i' < l.length by omega), Rd.go_done, rowLen d3 (show i' ≤ l.length by omega), rowTail d3 (show i' ≤ l.length by omega)]
        | some y =>
          have hj := lt_of_some hy
          have hi2 : es[i']? = some es[i'] := List.getElem?_eq_getElem (by omega)
          simp only [L29_2, vI_mk, vB_mk, vS_mk, vL_mk, sVer_mk, sOff_mk, sLen_mk, oVer_mk, oEs_mk, cI_mk, cB_mk, cS_mk, cL_mk, cVer_mk, cOff_mk, cLen_mk, gI_zero, gI_succ, gB_zero, gB_succ, gS_zero, gS_succ, gL_zero, gL_succ, okI_zero, okI_succ, okB_zero, okB_succ, okS_zero, okS_succ, okL_zero, okL_succ, isIntT_int, isBoolT_bool, isStrT_str, isSlT_sl, intOf_int, boolOf_bool, strOf_str, slOf_sl, treeOf_t, srVer_sref, srOff_sref, srLen_sref, ver_row, esOf_row, cellOf_box, aI_mk, aB_mk, aS_mk, aL_mk, aggOf_agg, join_eq, List.getD_cons_zero, List.getD_cons_succ, decide_true, decide_false, cnd_true, cnd_false, true_and, and_true, false_and, and_false, Option.bind_some, Option.bind_none, List.length_cons, List.length_nil, List.length_map, List.getElem?_map, Option.map_some, Option.map_none, Int.toNat_natCast, reduceCtorEq, eq_self, if_true, if_false, Nat.zero_add, Nat.reduceAdd, Nat.reduceEqDiff, Int.natCast_nonneg, List.drop_zero, or_true, true_or, or_false, false_or, Bool.not_true, Bool.not_false, Bool.false_eq_true, decide_eq_true_eq, ge_iff_le, gt_iff_lt, (show (j : Int) < (l.length : Int) by omega), hat, hy, hi2, Entry.enc, (show (i' : Int) < (l.length : Int) by omega), Nat.le_refl, w64_succ (show i' < 4611686018427387904 by omega), w64_succ (show j < 4611686018427387904 by omega), List.drop_succ_cons, List.append_nil]
          by_cases hpy : y.ticket = t
          · have : (y.ticket == t) = true := by simpa using hpy
            simp [this, hpy, cnd_eq, Rd.go_next]
          · have : (y.ticket == t) = false := by simpa using hpy
            simp [this, hpy, cnd_eq, Rd.go_next, List.map_set, Entry.enc]
  · have hi := lt_of_some hx
    simp only [L29_1, vI_mk, vB_mk, vS_mk, vL_mk, sVer_mk, sOff_mk, sLen_mk, oVer_mk, oEs_mk, cI_mk, cB_mk, cS_mk, cL_mk, cVer_mk, cOff_mk, cLen_mk, gI_zero, gI_succ, gB_zero, gB_succ, gS_zero, gS_succ, gL_zero, gL_succ, okI_zero, okI_succ, okB_zero, okB_succ, okS_zero, okS_succ, okL_zero, okL_succ, isIntT_int, isBoolT_bool, isStrT_str, isSlT_sl, intOf_int, boolOf_bool, strOf_str, slOf_sl, treeOf_t, srVer_sref, srOff_sref, srLen_sref, ver_row, esOf_row, cellOf_box, aI_mk, aB_mk, aS_mk, aL_mk, aggOf_agg, join_eq, List.getD_cons_zero, List.getD_cons_succ, decide_true, decide_false, cnd_true, cnd_false, true_and, and_true, false_and, and_false, Option.bind_some, Option.bind_none, List.length_cons, List.length_nil, List.length_map, List.getElem?_map, Option.map_some, Option.map_none, Int.toNat_natCast, reduceCtorEq, eq_self, if_true, if_false, Nat.zero_add, Nat.reduceAdd, Nat.reduceEqDiff, Int.natCast_nonneg, List.drop_zero, or_true, true_or, or_false, false_or, Bool.not_true, Bool.not_false, Bool.false_eq_true, decide_eq_true_eq, ge_iff_le, gt_iff_lt, hx, Entry.enc, (show (i : Int) < l.length by omega), w64_succ (show i < 4611686018427387904 by omega)]
    by_cases h : x.ticket = t <;> simp [h, cnd_eq, Rd.go_next, Rd.go_done]
  · simp only [L29_1, vI_mk, vB_mk, vS_mk, vL_mk, sVer_mk, sOff_mk, sLen_mk, oVer_mk, oEs_mk, cI_mk, cB_mk, cS_mk, cL_mk, cVer_mk, cOff_mk, cLen_mk, gI_zero, gI_succ, gB_zero, gB_succ, gS_zero, gS_succ, gL_zero, gL_succ, okI_zero, okI_succ, okB_zero, okB_succ, okS_zero, okS_succ, okL_zero, okL_succ, isIntT_int, isBoolT_bool, isStrT_str, isSlT_sl, intOf_int, boolOf_bool, strOf_str, slOf_sl, treeOf_t, srVer_sref, srOff_sref, srLen_sref, ver_row, esOf_row, cellOf_box, aI_mk, aB_mk, aS_mk, aL_mk, aggOf_agg, join_eq, List.getD_cons_zero, List.getD_cons_succ, decide_true, decide_false, cnd_true, cnd_false, true_and, and_true, false_and, and_false, Option.bind_some, Option.bind_none, List.length_cons, List.length_nil, List.length_map, List.getElem?_map, Option.map_some, Option.map_none, Int.toNat_natCast, reduceCtorEq, eq_self, if_true, if_false, Nat.zero_add, Nat.reduceAdd, Nat.reduceEqDiff, Int.natCast_nonneg, List.drop_zero, or_true, true_or, or_false, false_or, Bool.not_true, Bool.not_false, Bool.false_eq_true, decide_eq_true_eq, ge_iff_le, gt_iff_lt, Int.lt_irrefl]
theorem s1000029 (l : List Entry) (t : Int) (hl : l.length ≤ 1000000) : Runs C 1000029 [.sl 4 (l.map Entry.enc), tI t] [.sl 4 ((removeQ l t).map Entry.enc)] := by
  refine Runs.of (fun n => e1000029 n _ _) ?_
  have k1 := loop_overZ (R := List Tree) (Z := List AV × Heap → Option (List Tree)) (B := fun n z p again => L1000029_1 n [.sl 4 (l.map Entry.enc)] t z p again) (s := (([.t (tI 0)], [.row false 0 4 (l.map Entry.enc)]) : List AV × Heap)) l (fun i (_ : Unit) => (([.t (tI i)], [.row false 0 4 (l.map Entry.enc)]) : List AV × Heap))
    (fun i _ x => if decide (x.ticket = t) = true then .done (i : Int) else .next ()) (fun _ => -1) (fun z (q : Int) => z ([.t (tI q)], [.row false 0 4 (l.map Entry.enc)])) (fun _ _ => True) () rfl trivial (find_run0 _ l)
    (fun i s x hx hI => Ev.of fun n z again => ?_) (fun _ _ _ _ _ _ _ => trivial) (fun s hI => Ev.of fun n z again => ?_)
  · have hfe : removeQ l t = l.filter fun x => !decide (x.ticket = t) := by unfold removeQ; congr 1; funext x; simp
    rw [hfe]
    rcases idx_cases (fun x : Entry => decide (x.ticket = t)) l with ⟨hi, hn⟩ | ⟨i, x, hi, hx, hp, hb⟩
    · rw [hi] at k1
      refine ((s1000048 (l.map Entry.enc) (by simp; omega)).and k1).mono fun n h => ?_
      simp only [h.1, h.2, vI_mk, vB_mk, vS_mk, vL_mk, sVer_mk, sOff_mk, sLen_mk, oVer_mk, oEs_mk, cI_mk, cB_mk, cS_mk, cL_mk, cVer_mk, cOff_mk, cLen_mk, gI_zero, gI_succ, gB_zero, gB_succ, gS_zero, gS_succ, gL_zero, gL_succ, okI_zero, okI_succ, okB_zero, okB_succ, okS_zero, okS_succ, okL_zero, okL_succ, isIntT_int, isBoolT_bool, isStrT_str, isSlT_sl, intOf_int, boolOf_bool, strOf_str, slOf_sl, treeOf_t, srVer_sref, srOff_sref, srLen_sref, ver_row, esOf_row, cellOf_box, aI_mk, aB_mk, aS_mk, aL_mk, aggOf_agg, join_eq, List.getD_cons_zero, List.getD_cons_succ, decide_true, decide_false, cnd_true, cnd_false, true_and, and_true, false_and, and_false, Option.bind_some, Option.bind_none, List.length_cons, List.length_nil, List.length_map, List.getElem?_map, Option.map_some, Option.map_none, Int.toNat_natCast, reduceCtorEq, eq_self, if_true, if_false, Nat.zero_add, Nat.reduceAdd, Nat.reduceEqDiff, Int.natCast_nonneg, List.drop_zero, or_true, true_or, or_false, false_or, Bool.not_true, Bool.not_false, Bool.false_eq_true, decide_eq_true_eq, ge_iff_le, gt_iff_lt, J1000029_3, beq_self_eq_true]
      have e1 : List.take l.length (l.map Entry.enc) = l.map Entry.enc := List.take_of_length_le (by simp)
      have e2 : l.filter (fun x => !decide (x.ticket = t)) = l := filter_none fun j y _ hy => hn y (List.mem_of_getElem? hy)
      rw [e1, e2]
    · rw [hi] at k1
      have hil := lt_of_some hx
      have k2 := del_over (R := List Tree) (B := fun n p again => L1000029_2 n [.sl 4 (l.map Entry.enc)] t p again) (fun (r : List Entry) => [Tree.sl 4 (r.map Entry.enc)]) (fun x => decide (x.ticket = t)) l (fun (s : DS Entry) => (([.t (tI s.i), .t (tI s.j)], [.row false 0 4 (s.es.map Entry.enc)]) : List AV × Heap)) ⟨i, i + 1, l⟩ rfl (DInv.start hx hp hb) (fun s hD => Ev.of fun n again => ?_)
      · refine ((s1000048 (l.map Entry.enc) (by simp; omega)).and (k1.and k2)).mono fun n h => ?_
        obtain ⟨h1, h2, h3⟩ := h
        simp only [h1, h2, vI_mk, vB_mk, vS_mk, vL_mk, sVer_mk, sOff_mk, sLen_mk, oVer_mk, oEs_mk, cI_mk, cB_mk, cS_mk, cL_mk, cVer_mk, cOff_mk, cLen_mk, gI_zero, gI_succ, gB_zero, gB_succ, gS_zero, gS_succ, gL_zero, gL_succ, okI_zero, okI_succ, okB_zero, okB_succ, okS_zero, okS_succ, okL_zero, okL_succ, isIntT_int, isBoolT_bool, isStrT_str, isSlT_sl, intOf_int, boolOf_bool, strOf_str, slOf_sl, treeOf_t, srVer_sref, srOff_sref, srLen_sref, ver_row, esOf_row, cellOf_box, aI_mk, aB_mk, aS_mk, aL_mk, aggOf_agg, join_eq, List.getD_cons_zero, List.getD_cons_succ, decide_true, decide_false, cnd_true, cnd_false, true_and, and_true, false_and, and_false, Option.bind_some, Option.bind_none, List.length_cons, List.length_nil, List.length_map, List.getElem?_map, Option.map_some, Option.map_none, Int.toNat_natCast, reduceCtorEq, eq_self, if_true, if_false, Nat.zero_add, Nat.reduceAdd, Nat.reduceEqDiff, Int.natCast_nonneg, List.drop_zero, or_true, true_or, or_false, false_or, Bool.not_true, Bool.not_false, Bool.false_eq_true, decide_eq_true_eq, ge_iff_le, gt_iff_lt, J1000029_3, (show (((i : Nat) : Int) == -1) = false by simp), w64_succ (show i < 4611686018427387904 by omega)]
        exact h3
      · have hat := hD.at
        obtain ⟨i', j, es⟩ := s
        obtain ⟨d1, d2, d3, d4, d5⟩ := hD
        simp only at d1 d2 d3 d4 d5 hat
        unfold dstep
        simp only
        cases hy : l[j]? with
        | none =>
          have hj : l.length ≤ j := by simpa using hy
          simp only [L1000029_2, vI_mk, vB_mk, vS_mk, vL_mk, sVer_mk, sOff_mk, sLen_mk, oVer_mk, oEs_mk, cI_mk, cB_mk, cS_mk, cL_mk, cVer_mk, cOff_mk, cLen_mk, gI_zero, gI_succ, gB_zero, gB_succ, gS_zero, gS_succ, gL_zero, gL_succ, okI_zero, okI_succ, okB_zero, okB_succ, okS_zero, okS_succ, okL_zero, okL_succ, isIntT_int, isBoolT_bool, isStrT_str, isSlT_sl, intOf_int, boolOf_bool, strOf_str, slOf_sl, treeOf_t, srVer_sref, srOff_sref, srLen_sref, ver_row, esOf_row, cellOf_box, aI_mk, aB_mk, aS_mk, aL_mk, aggOf_agg, join_eq, List.getD_cons_zero, List.getD_cons_succ, decide_true, decide_false, cnd_true, cnd_false, true_and, and_true, false_and, and_false, Option.bind_some, Option.bind_none, List.length_cons, List.length_nil, List.length_map, List.getElem?_map, Option.map_some, Option.map_none, Int.toNat_natCast, reduceCtorEq, eq_self, if_true, if_false, Nat.zero_add, Nat.reduceAdd, Nat.reduceEqDiff, Int.natCast_nonneg, List.drop_zero, or_true, true_or, or_false, false_or, Bool.not_true, Bool.not_false, Bool.false_eq_true, decide_eq_true_eq, ge_iff_le, gt_iff_lt, (show ¬ (j : Int) < (l.length : Int) by omega), d3, (show (i' : Int) ≤ (l.length : Int) by omega), (show i' < l.length by omega), Rd.go_done, rowLen d3 (show i' ≤ l.length by omega), rowTail d3 (show i' ≤ l.length by omega)]
        | some y =>
          have hj := lt_of_some hy
          have hi2 : es[i']? = some es[i'] := List.getElem?_eq_getElem (by omega)
          simp only [L1000029_2, vI_mk, vB_mk, vS_mk, vL_mk, sVer_mk, sOff_mk, sLen_mk, oVer_mk, oEs_mk, cI_mk, cB_mk, cS_mk, cL_mk, cVer_mk, cOff_mk, cLen_mk, gI_zero, gI_succ, gB_zero, gB_succ, gS_zero, gS_succ, gL_zero, gL_succ, okI_zero, okI_succ, okB_zero, okB_succ, okS_zero, okS_succ, okL_zero, okL_succ, isIntT_int, isBoolT_bool, isStrT_str, isSlT_sl, intOf_int, boolOf_bool, strOf_str, slOf_sl, treeOf_t, srVer_sref, srOff_sref, srLen_sref, ver_row, esOf_row, cellOf_box, aI_mk, aB_mk, aS_mk, aL_mk, aggOf_agg, join_eq, List.getD_cons_zero, List.getD_cons_succ, decide_true, decide_false, cnd_true, cnd_false, true_and, and_true, false_and, and_false, Option.bind_some, Option.bind_none, List.length_cons, List.length_nil, List.length_map, List.getElem?_map, Option.map_some, Option.map_none, Int.toNat_natCast, reduceCtorEq, eq_self, if_true, if_false, Nat.zero_add, Nat.reduceAdd, Nat.reduceEqDiff, Int.natCast_nonneg, List.drop_zero, or_true, true_or, or_false, false_or, Bool.not_true, Bool.not_false, Bool.false_eq_true, decide_eq_true_eq, ge_iff_le, gt_iff_lt, (show (j : Int) < (l.length : Int) by omega), hat, hy, hi2, Entry.enc, (show (i' : Int) < (l.length : Int) by omega), Nat.le_refl, w64_succ (show i' < 4611686018427387904 by omega), w64_succ (show j < 4611686018427387904 by omega), List.drop_succ_cons, List.append_nil]
          by_cases hpy : y.ticket = t
          · have : (y.ticket == t) = true := by simpa using hpy
            simp [this, hpy, cnd_eq, Rd.go_next]
          · have : (y.ticket == t) = false := by simpa using hpy
            simp [this, hpy, cnd_eq, Rd.go_next, List.map_set, Entry.enc]
  · have hi := lt_of_some hx
    simp only [L1000029_1, vI_mk, vB_mk, vS_mk, vL_mk, sVer_mk, sOff_mk, sLen_mk, oVer_mk, oEs_mk, cI_mk, cB_mk, cS_mk, cL_mk, cVer_mk, cOff_mk, cLen_mk, gI_zero, gI_succ, gB_zero, gB_succ, gS_zero, gS_succ, gL_zero, gL_succ, okI_zero, okI_succ, okB_zero, okB_succ, okS_zero, okS_succ, okL_zero, okL_succ, isIntT_int, isBoolT_bool, isStrT_str, isSlT_sl, intOf_int, boolOf_bool, strOf_str, slOf_sl, treeOf_t, srVer_sref, srOff_sref, srLen_sref, ver_row, esOf_row, cellOf_box, aI_mk, aB_mk, aS_mk, aL_mk, aggOf_agg, join_eq, List.getD_cons_zero, List.getD_cons_succ, decide_true, decide_false, cnd_true, cnd_false, true_and, and_true, false_and, and_false, Option.bind_some, Option.bind_none, List.length_cons, List.length_nil, List.length_map, List.getElem?_map, Option.map_some, Option.map_none, Int.toNat_natCast, reduceCtorEq, eq_self, if_true, if_false, Nat.zero_add, Nat.reduceAdd, Nat.reduceEqDiff, Int.natCast_nonneg, List.drop_zero, or_true, true_or, or_false, false_or, Bool.not_true, Bool.not_false, Bool.false_eq_true, decide_eq_true_eq, ge_iff_le, gt_iff_lt, hx, Entry.enc, (show (i : Int) < l.length by omega), w64_succ (show i < 4611686018427387904 by omega)]
    by_cases h : x.ticket = t <;> simp [h, cnd_eq, Rd.go_next, Rd.go_done]
  · simp only [L1000029_1, vI_mk, vB_mk, vS_mk, vL_mk, sVer_mk, sOff_mk, sLen_mk, oVer_mk, oEs_mk, cI_mk, cB_mk, cS_mk, cL_mk, cVer_mk, cOff_mk, cLen_mk, gI_zero, gI_succ, gB_zero, gB_succ, gS_zero, gS_succ, gL_zero, gL_succ, okI_zero, okI_succ, okB_zero, okB_succ, okS_zero, okS_succ, okL_zero, okL_succ, isIntT_int, isBoolT_bool, isStrT_str, isSlT_sl, intOf_int, boolOf_bool, strOf_str, slOf_sl, treeOf_t, srVer_sref, srOff_sref, srLen_sref, ver_row, esOf_row, cellOf_box, aI_mk, aB_mk, aS_mk, aL_mk, aggOf_agg, join_eq, List.getD_cons_zero, List.getD_cons_succ, decide_true, decide_false, cnd_true, cnd_false, true_and, and_true, false_and, and_false, Option.bind_some, Option.bind_none, List.length_cons, List.length_nil, List.length_map, List.getElem?_map, Option.map_some, Option.map_none, Int.toNat_natCast, reduceCtorEq, eq_self, if_true, if_false, Nat.zero_add, Nat.reduceAdd, Nat.reduceEqDiff, Int.natCast_nonneg, List.drop_zero, or_true, true_or, or_false, false_or, Bool.not_true, Bool.not_false, Bool.false_eq_true, decide_eq_true_eq, ge_iff_le, gt_iff_lt, Int.lt_irrefl]
end Ab

set_option linter.unusedVariables false
set_option linter.unusedSimpArgs false
namespace Ab
open Go


theorem s12 : Runs C 12 [] [.bool true] := Ev.add 60 (Ev.of fun n => by kernel_rfl)
theorem s24 (a b : Entry) : Runs C 24 (a.enc ++ b.enc) [.bool (decide (a.prio = 2 ∧ b.prio < 2))] := by
  refine Runs.of (fun n => e24 n _ _ _ _ _ _ _ _) (Ev.of fun n => ?_)
  by_cases h : a.prio = 2 <;> simp [h, cnd_eq]
theorem s25 (a b : Entry) : Runs C 25 (a.enc ++ b.enc) [.bool (decide (a.prio = 2 ∧ b.prio < 2))] := by
  refine Runs.of (fun n => e25 n _ _ _ _ _ _ _ _) (Ev.of fun n => ?_)
  by_cases h : a.prio = 2 <;> simp [h, cnd_eq]
def great (n : Nat) : Bool := decide (12 < n ∧ n < 63 ∨ 70 < n)
theorem s20 (l : List (List Tree)) : Runs C 20 [.sl 4 l] [.bool (great l.length)] := by
  refine Runs.of (fun n => e20 n _) (Ev.of fun n => ?_)
  unfold great
  by_cases h1 : 12 < l.length
  · by_cases h2 : l.length < 63
    · simp only [vI_mk, vB_mk, vS_mk, vL_mk, sVer_mk, sOff_mk, sLen_mk, oVer_mk, oEs_mk, cI_mk, cB_mk, cS_mk, cL_mk, cVer_mk, cOff_mk, cLen_mk, gI_zero, gI_succ, gB_zero, gB_succ, gS_zero, gS_succ, gL_zero, gL_succ, okI_zero, okI_succ, okB_zero, okB_succ, okS_zero, okS_succ, okL_zero, okL_succ, isIntT_int, isBoolT_bool, isStrT_str, isSlT_sl, intOf_int, boolOf_bool, strOf_str, slOf_sl, treeOf_t, srVer_sref, srOff_sref, srLen_sref, ver_row, esOf_row, cellOf_box, aI_mk, aB_mk, aS_mk, aL_mk, aggOf_agg, join_eq, List.getD_cons_zero, List.getD_cons_succ, decide_true, decide_false, cnd_true, cnd_false, true_and, and_true, false_and, and_false, Option.bind_some, Option.bind_none, List.length_cons, List.length_nil, List.length_map, List.getElem?_map, Option.map_some, Option.map_none, Int.toNat_natCast, reduceCtorEq, eq_self, if_true, if_false, Nat.zero_add, Nat.reduceAdd, Nat.reduceEqDiff, Int.natCast_nonneg, List.drop_zero, or_true, true_or, or_false, false_or, Bool.not_true, Bool.not_false, Bool.false_eq_true, decide_eq_true_eq, ge_iff_le, gt_iff_lt, (show (12 : Int) < (l.length : Int) by omega), (show (l.length : Int) < 63 by omega), h1, h2]
    · simp only [vI_mk, vB_mk, vS_mk, vL_mk, sVer_mk, sOff_mk, sLen_mk, oVer_mk, oEs_mk, cI_mk, cB_mk, cS_mk, cL_mk, cVer_mk, cOff_mk, cLen_mk, gI_zero, gI_succ, gB_zero, gB_succ, gS_zero, gS_succ, gL_zero, gL_succ, okI_zero, okI_succ, okB_zero, okB_succ, okS_zero, okS_succ, okL_zero, okL_succ, isIntT_int, isBoolT_bool, isStrT_str, isSlT_sl, intOf_int, boolOf_bool, strOf_str, slOf_sl, treeOf_t, srVer_sref, srOff_sref, srLen_sref, ver_row, esOf_row, cellOf_box, aI_mk, aB_mk, aS_mk, aL_mk, aggOf_agg, join_eq, List.getD_cons_zero, List.getD_cons_succ, decide_true, decide_false, cnd_true, cnd_false, true_and, and_true, false_and, and_false, Option.bind_some, Option.bind_none, List.length_cons, List.length_nil, List.length_map, List.getElem?_map, Option.map_some, Option.map_none, Int.toNat_natCast, reduceCtorEq, eq_self, if_true, if_false, Nat.zero_add, Nat.reduceAdd, Nat.reduceEqDiff, Int.natCast_nonneg, List.drop_zero, or_true, true_or, or_false, false_or, Bool.not_true, Bool.not_false, Bool.false_eq_true, decide_eq_true_eq, ge_iff_le, gt_iff_lt, (show (12 : Int) < (l.length : Int) by omega), (show ¬ (l.length : Int) < 63 by omega), h1, h2]
      congr 3
      simp
      omega
  · simp only [vI_mk, vB_mk, vS_mk, vL_mk, sVer_mk, sOff_mk, sLen_mk, oVer_mk, oEs_mk, cI_mk, cB_mk, cS_mk, cL_mk, cVer_mk, cOff_mk, cLen_mk, gI_zero, gI_succ, gB_zero, gB_succ, gS_zero, gS_succ, gL_zero, gL_succ, okI_zero, okI_succ, okB_zero, okB_succ, okS_zero, okS_succ, okL_zero, okL_succ, isIntT_int, isBoolT_bool, isStrT_str, isSlT_sl, intOf_int, boolOf_bool, strOf_str, slOf_sl, treeOf_t, srVer_sref, srOff_sref, srLen_sref, ver_row, esOf_row, cellOf_box, aI_mk, aB_mk, aS_mk, aL_mk, aggOf_agg, join_eq, List.getD_cons_zero, List.getD_cons_succ, decide_true, decide_false, cnd_true, cnd_false, true_and, and_true, false_and, and_false, Option.bind_some, Option.bind_none, List.length_cons, List.length_nil, List.length_map, List.getElem?_map, Option.map_some, Option.map_none, Int.toNat_natCast, reduceCtorEq, eq_self, if_true, if_false, Nat.zero_add, Nat.reduceAdd, Nat.reduceEqDiff, Int.natCast_nonneg, List.drop_zero, or_true, true_or, or_false, false_or, Bool.not_true, Bool.not_false, Bool.false_eq_true, decide_eq_true_eq, ge_iff_le, gt_iff_lt, (show ¬ (12 : Int) < (l.length : Int) by omega), h1, (show ¬ (70 : Int) < (l.length : Int) by omega), (show ¬ 70 < l.length by omega)]
def zeroE : Entry := ⟨0, 0, 0, 0⟩
def popR (r : List Entry) : Entry × List Entry × Int := match r with
  | [] => (zeroE, [], 20)
  | x :: r => (x, r, 0)
def popQ (l : List Entry) (t : Int) : Entry × List Entry × Int := if checkQ l ≠ 0 then (zeroE, [], 1) else popR (freshQ l t)
def popT (q : Entry × List Entry × Int) : List Tree := q.1.enc ++ [.sl 4 (q.2.1.map Entry.enc), tI q.2.2]
theorem s23 (l : List Entry) (t : Int) (hl : l.length ≤ 1000000) : Runs C 23 [.sl 4 (l.map Entry.enc), tI t] (popT (popQ l t)) := by
  refine Runs.of (fun n => e23 n _ _) ?_
  refine ((s27 l hl).and (s42 l t hl)).mono fun n h => ?_
  obtain ⟨h1, h2⟩ := h
  unfold popQ
  by_cases c1 : checkQ l = 0
  · have e0 : (freshQ l t).length ≤ l.length := List.length_filter_le _ _
    simp only [h1, h2, c1, vI_mk, vB_mk, vS_mk, vL_mk, sVer_mk, sOff_mk, sLen_mk, oVer_mk, oEs_mk, cI_mk, cB_mk, cS_mk, cL_mk, cVer_mk, cOff_mk, cLen_mk, gI_zero, gI_succ, gB_zero, gB_succ, gS_zero, gS_succ, gL_zero, gL_succ, okI_zero, okI_succ, okB_zero, okB_succ, okS_zero, okS_succ, okL_zero, okL_succ, isIntT_int, isBoolT_bool, isStrT_str, isSlT_sl, intOf_int, boolOf_bool, strOf_str, slOf_sl, treeOf_t, srVer_sref, srOff_sref, srLen_sref, ver_row, esOf_row, cellOf_box, aI_mk, aB_mk, aS_mk, aL_mk, aggOf_agg, join_eq, List.getD_cons_zero, List.getD_cons_succ, decide_true, decide_false, cnd_true, cnd_false, true_and, and_true, false_and, and_false, Option.bind_some, Option.bind_none, List.length_cons, List.length_nil, List.length_map, List.getElem?_map, Option.map_some, Option.map_none, Int.toNat_natCast, reduceCtorEq, eq_self, if_true, if_false, Nat.zero_add, Nat.reduceAdd, Nat.reduceEqDiff, Int.natCast_nonneg, List.drop_zero, or_true, true_or, or_false, false_or, Bool.not_true, Bool.not_false, Bool.false_eq_true, decide_eq_true_eq, ge_iff_le, gt_iff_lt, bne_self_eq_false, ne_eq, not_true]
    cases hf : freshQ l t with
    | nil => simp [popR, popT, zeroE, Entry.enc, cnd_eq]
    | cons x r =>
      have : (((r.length + 1 : Nat) : Int) == 0) = false := by simp; omega
      simp only [vI_mk, vB_mk, vS_mk, vL_mk, sVer_mk, sOff_mk, sLen_mk, oVer_mk, oEs_mk, cI_mk, cB_mk, cS_mk, cL_mk, cVer_mk, cOff_mk, cLen_mk, gI_zero, gI_succ, gB_zero, gB_succ, gS_zero, gS_succ, gL_zero, gL_succ, okI_zero, okI_succ, okB_zero, okB_succ, okS_zero, okS_succ, okL_zero, okL_succ, isIntT_int, isBoolT_bool, isStrT_str, isSlT_sl, intOf_int, boolOf_bool, strOf_str, slOf_sl, treeOf_t, srVer_sref, srOff_sref, srLen_sref, ver_row, esOf_row, cellOf_box, aI_mk, aB_mk, aS_mk, aL_mk, aggOf_agg, join_eq, List.getD_cons_zero, List.getD_cons_succ, decide_true, decide_false, cnd_true, cnd_false, true_and, and_true, false_and, and_false, Option.bind_some, Option.bind_none, List.length_cons, List.length_nil, List.length_map, List.getElem?_map, Option.map_some, Option.map_none, Int.toNat_natCast, reduceCtorEq, eq_self, if_true, if_false, Nat.zero_add, Nat.reduceAdd, Nat.reduceEqDiff, Int.natCast_nonneg, List.drop_zero, or_true, true_or, or_false, false_or, Bool.not_true, Bool.not_false, Bool.false_eq_true, decide_eq_true_eq, ge_iff_le, gt_iff_lt, this, List.map_cons, List.getElem?_cons_zero, Entry.enc, (show (0 : Int) ≤ 1 by omega), (show (1 : Int) ≤ ((r.length + 1 : Nat) : Int) by omega)]
      have e1 : List.take r.length (List.map Entry.enc r) = List.map Entry.enc r := List.take_of_length_le (by simp)
      simp [popR, popT, Entry.enc, e1]
  · simp only [h1, vI_mk, vB_mk, vS_mk, vL_mk, sVer_mk, sOff_mk, sLen_mk, oVer_mk, oEs_mk, cI_mk, cB_mk, cS_mk, cL_mk, cVer_mk, cOff_mk, cLen_mk, gI_zero, gI_succ, gB_zero, gB_succ, gS_zero, gS_succ, gL_zero, gL_succ, okI_zero, okI_succ, okB_zero, okB_succ, okS_zero, okS_succ, okL_zero, okL_succ, isIntT_int, isBoolT_bool, isStrT_str, isSlT_sl, intOf_int, boolOf_bool, strOf_str, slOf_sl, treeOf_t, srVer_sref, srOff_sref, srLen_sref, ver_row, esOf_row, cellOf_box, aI_mk, aB_mk, aS_mk, aL_mk, aggOf_agg, join_eq, List.getD_cons_zero, List.getD_cons_succ, decide_true, decide_false, cnd_true, cnd_false, true_and, and_true, false_and, and_false, Option.bind_some, Option.bind_none, List.length_cons, List.length_nil, List.length_map, List.getElem?_map, Option.map_some, Option.map_none, Int.toNat_natCast, reduceCtorEq, eq_self, if_true, if_false, Nat.zero_add, Nat.reduceAdd, Nat.reduceEqDiff, Int.natCast_nonneg, List.drop_zero, or_true, true_or, or_false, false_or, Bool.not_true, Bool.not_false, Bool.false_eq_true, decide_eq_true_eq, ge_iff_le, gt_iff_lt]
    simp [c1, cnd_eq, popT, zeroE, Entry.enc]
theorem pop_cons {R : List (List Tree)} {es : List Entry} {x : Entry} {r : List Entry} {i : Nat} (hR : List.take i R = (es.take i).map Entry.enc) (hr : es.take i = x :: r) (hi : i ≤ es.length) : i = r.length + 1 ∧ R[0]? = some x.enc ∧ List.take (i - 1) (List.drop 1 R) = r.map Entry.enc := by
  have h1 : i = r.length + 1 := by
    have := congrArg List.length hr
    simp at this
    omega
  rw [hr] at hR
  refine ⟨h1, ?_, ?_⟩
  · have := congrArg (fun m => m[0]?) hR
    simp only [List.map_cons, List.getElem?_cons_zero] at this
    rw [List.getElem?_take_of_lt (by omega)] at this
    exact this
  · have := congrArg (List.drop 1) hR
    rw [List.drop_take] at this
    simpa using this
theorem s22 (l : List Entry) (t : Int) (hl : l.length ≤ 1000000) : Runs C 22 [.sl 4 (l.map Entry.enc), tI t] (popT (popQ l t)) := by
  refine Runs.of (fun n => e22 n _ _) ?_
  unfold popQ
  by_cases c1 : checkQ l = 0
  · rw [if_neg (by simp [c1])]
    have k1 := loop_overZ (R := List Tree) (Z := List AV × Heap → Option (List Tree)) (B := fun n z p again => L22_1 n [.sl 4 (l.map Entry.enc)] t z p again) (s := (([.t (tI 0)], [.box [.t (tI 0), .t (tI 0), .t (tI 0), .t (tI 0)], .row false 0 4 (l.map Entry.enc)]) : List AV × Heap)) l (fun i (_ : Unit) => (([.t (tI i)], [.box [.t (tI 0), .t (tI 0), .t (tI 0), .t (tI 0)], .row false 0 4 (l.map Entry.enc)]) : List AV × Heap))
      (fun i _ x => if decide (x.exp ≤ t) = true then .done (i : Int) else .next ()) (fun _ => -1) (fun z (q : Int) => z ([.t (tI q)], [.box [.t (tI 0), .t (tI 0), .t (tI 0), .t (tI 0)], .row false 0 4 (l.map Entry.enc)])) (fun _ _ => True) () rfl trivial (find_run0 _ l)
      (fun i s x hx hI => Ev.of fun n z again => ?_) (fun _ _ _ _ _ _ _ => trivial) (fun s hI => Ev.of fun n z again => ?_)
    · have hfe : freshQ l t = l.filter fun x => !decide (x.exp ≤ t) := by
        unfold freshQ
        congr 1
        funext x
        have : x.exp > t ↔ ¬ x.exp ≤ t := by omega
        rw [decide_eq_decide.2 this, decide_not]
      rw [hfe]
      rcases idx_cases (fun x : Entry => decide (x.exp ≤ t)) l with ⟨hi, hn⟩ | ⟨i, x, hi, hx, hp, hb⟩
      · rw [hi] at k1
        refine ((s26 l hl).and ((s1000048 (l.map Entry.enc) (by simp; omega)).and k1)).mono fun n h => ?_
        have e2 : l.filter (fun x => !decide (x.exp ≤ t)) = l := filter_none fun j y _ hy => hn y (List.mem_of_getElem? hy)
        rw [e2]
        obtain ⟨h0, h1, h2⟩ := h
        simp only [h0, h1, h2, c1, bne_self_eq_false, vI_mk, vB_mk, vS_mk, vL_mk, sVer_mk, sOff_mk, sLen_mk, oVer_mk, oEs_mk, cI_mk, cB_mk, cS_mk, cL_mk, cVer_mk, cOff_mk, cLen_mk, gI_zero, gI_succ, gB_zero, gB_succ, gS_zero, gS_succ, gL_zero, gL_succ, okI_zero, okI_succ, okB_zero, okB_succ, okS_zero, okS_succ, okL_zero, okL_succ, isIntT_int, isBoolT_bool, isStrT_str, isSlT_sl, intOf_int, boolOf_bool, strOf_str, slOf_sl, treeOf_t, srVer_sref, srOff_sref, srLen_sref, ver_row, esOf_row, cellOf_box, aI_mk, aB_mk, aS_mk, aL_mk, aggOf_agg, join_eq, List.getD_cons_zero, List.getD_cons_succ, decide_true, decide_false, cnd_true, cnd_false, true_and, and_true, false_and, and_false, Option.bind_some, Option.bind_none, List.length_cons, List.length_nil, List.length_map, List.getElem?_map, Option.map_some, Option.map_none, Int.toNat_natCast, reduceCtorEq, eq_self, if_true, if_false, Nat.zero_add, Nat.reduceAdd, Nat.reduceEqDiff, Int.natCast_nonneg, List.drop_zero, or_true, true_or, or_false, false_or, Bool.not_true, Bool.not_false, Bool.false_eq_true, decide_eq_true_eq, ge_iff_le, gt_iff_lt, J22_3, beq_self_eq_true]
        cases l with
        | nil => simp [popR, popT, zeroE, Entry.enc, cnd_eq]
        | cons x r =>
          have : (((r.length + 1 : Nat) : Int) == 0) = false := by simp; omega
          have e1 : List.take r.length (List.map Entry.enc r) = List.map Entry.enc r := List.take_of_length_le (by simp)
          simp only [vI_mk, vB_mk, vS_mk, vL_mk, sVer_mk, sOff_mk, sLen_mk, oVer_mk, oEs_mk, cI_mk, cB_mk, cS_mk, cL_mk, cVer_mk, cOff_mk, cLen_mk, gI_zero, gI_succ, gB_zero, gB_succ, gS_zero, gS_succ, gL_zero, gL_succ, okI_zero, okI_succ, okB_zero, okB_succ, okS_zero, okS_succ, okL_zero, okL_succ, isIntT_int, isBoolT_bool, isStrT_str, isSlT_sl, intOf_int, boolOf_bool, strOf_str, slOf_sl, treeOf_t, srVer_sref, srOff_sref, srLen_sref, ver_row, esOf_row, cellOf_box, aI_mk, aB_mk, aS_mk, aL_mk, aggOf_agg, join_eq, List.getD_cons_zero, List.getD_cons_succ, decide_true, decide_false, cnd_true, cnd_false, true_and, and_true, false_and, and_false, Option.bind_some, Option.bind_none, List.length_cons, List.length_nil, List.length_map, List.getElem?_map, Option.map_some, Option.map_none, Int.toNat_natCast, reduceCtorEq, eq_self, if_true, if_false, Nat.zero_add, Nat.reduceAdd, Nat.reduceEqDiff, Int.natCast_nonneg, List.drop_zero, or_true, true_or, or_false, false_or, Bool.not_true, Bool.not_false, Bool.false_eq_true, decide_eq_true_eq, ge_iff_le, gt_iff_lt, this, List.map_cons, List.getElem?_cons_zero, Entry.enc, Int.le_refl, (show (0 : Int) < ((r.length + 1 : Nat) : Int) by omega), (show (0 : Int) ≤ 1 by omega), (show (1 : Int) ≤ ((r.length + 1 : Nat) : Int) by omega)]
          by_cases hr : r = []
          · subst hr
            simp [popR, popT, Entry.enc, cnd_eq]
          · have : 0 < r.length := List.length_pos_iff.2 hr
            simp [popR, popT, Entry.enc, cnd_eq, this, e1]
      · rw [hi] at k1
        have hil := lt_of_some hx
        have k2 := del_over (R := List Tree) (B := fun n p again => L22_2 n [.sl 4 (l.map Entry.enc)] t p again) (fun (r : List Entry) => popT (popR r)) (fun x => decide (x.exp ≤ t)) l (fun (s : DS Entry) => (([.t (tI s.i), .t (tI s.j)], [.box [.t (tI 0), .t (tI 0), .t (tI 0), .t (tI 0)], .row false 0 4 (s.es.map Entry.enc)]) : List AV × Heap)) ⟨i, i + 1, l⟩ rfl (DInv.start hx hp hb) (fun s hD => Ev.of fun n again => ?_)
        · refine ((s26 l hl).and ((s1000048 (l.map Entry.enc) (by simp; omega)).and (k1.and k2))).mono fun n h => ?_
          obtain ⟨h0, h1, h2, h3⟩ := h
          simp only [h0, h1, h2, c1, bne_self_eq_false, vI_mk, vB_mk, vS_mk, vL_mk, sVer_mk, sOff_mk, sLen_mk, oVer_mk, oEs_mk, cI_mk, cB_mk, cS_mk, cL_mk, cVer_mk, cOff_mk, cLen_mk, gI_zero, gI_succ, gB_zero, gB_succ, gS_zero, gS_succ, gL_zero, gL_succ, okI_zero, okI_succ, okB_zero, okB_succ, okS_zero, okS_succ, okL_zero, okL_succ, isIntT_int, isBoolT_bool, isStrT_str, isSlT_sl, intOf_int, boolOf_bool, strOf_str, slOf_sl, treeOf_t, srVer_sref, srOff_sref, srLen_sref, ver_row, esOf_row, cellOf_box, aI_mk, aB_mk, aS_mk, aL_mk, aggOf_agg, join_eq, List.getD_cons_zero, List.getD_cons_succ, decide_true, decide_false, cnd_true, cnd_false, true_and, and_true, false_and, and_false, Option.bind_some, Option.bind_none, List.length_cons, List.length_nil, List.length_map, List.getElem?_map, Option.map_some, Option.map_none, Int.toNat_natCast, reduceCtorEq, eq_self, if_true, if_false, Nat.zero_add, Nat.reduceAdd, Nat.reduceEqDiff, Int.natCast_nonneg, List.drop_zero, or_true, true_or, or_false, false_or, Bool.not_true, Bool.not_false, Bool.false_eq_true, decide_eq_true_eq, ge_iff_le, gt_iff_lt, J22_3, (show (((i : Nat) : Int) == -1) = false by simp), w64_succ (show i < 4611686018427387904 by omega)]
          exact h3
        · have hat := hD.at
          obtain ⟨i', j, es⟩ := s
          obtain ⟨d1, d2, d3, d4, d5⟩ := hD
          simp only at d1 d2 d3 d4 d5 hat
          unfold dstep
          simp only
          cases hy : l[j]? with
          | none =>
            have hj : l.length ≤ j := by simpa using hy
            have hR := rowTail (es := es) (L := l.length) d3 (show i' ≤ l.length by omega)
            simp only [L22_2, vI_mk, vB_mk, vS_mk, vL_mk, sVer_mk, sOff_mk, sLen_mk, oVer_mk, oEs_mk, cI_mk, cB_mk, cS_mk, cL_mk, cVer_mk, cOff_mk, cLen_mk, gI_zero, gI_succ, gB_zero, gB_succ, gS_zero, gS_succ, gL_zero, gL_succ, okI_zero, okI_succ, okB_zero, okB_succ, okS_zero, okS_succ, okL_zero, okL_succ, isIntT_int, isBoolT_bool, isStrT_str, isSlT_sl, intOf_int, boolOf_bool, strOf_str, slOf_sl, treeOf_t, srVer_sref, srOff_sref, srLen_sref, ver_row, esOf_row, cellOf_box, aI_mk, aB_mk, aS_mk, aL_mk, aggOf_agg, join_eq, List.getD_cons_zero, List.getD_cons_succ, decide_true, decide_false, cnd_true, cnd_false, true_and, and_true, false_and, and_false, Option.bind_some, Option.bind_none, List.length_cons, List.length_nil, List.length_map, List.getElem?_map, Option.map_some, Option.map_none, Int.toNat_natCast, reduceCtorEq, eq_self, if_true, if_false, Nat.zero_add, Nat.reduceAdd, Nat.reduceEqDiff, Int.natCast_nonneg, List.drop_zero, or_true, true_or, or_false, false_or, Bool.not_true, Bool.not_false, Bool.false_eq_true, decide_eq_true_eq, ge_iff_le, gt_iff_lt, (show ¬ (j : Int) < (l.length : Int) by omega), d3, (show (i' : Int) ≤ (l.length : Int) by omega), (show i' < l.length by omega), Rd.go_done, rowLen d3 (show i' ≤ l.length by omega), (show 0 < l.length by omega)]
            cases hr : es.take i' with
            | nil =>
              have hi0 : i' = 0 := by
                have := congrArg List.length hr
                rw [List.length_take] at this
                simp only [List.length_nil] at this
                omega
              subst hi0
              simp [popR, popT, zeroE, Entry.enc, cnd_eq]
            | cons x r =>
              obtain ⟨p1, p2, p3⟩ := pop_cons hR hr (by omega)
              have hne : ((i' : Int) == 0) = false := by simp; omega
              simp only [hne, vI_mk, vB_mk, vS_mk, vL_mk, sVer_mk, sOff_mk, sLen_mk, oVer_mk, oEs_mk, cI_mk, cB_mk, cS_mk, cL_mk, cVer_mk, cOff_mk, cLen_mk, gI_zero, gI_succ, gB_zero, gB_succ, gS_zero, gS_succ, gL_zero, gL_succ, okI_zero, okI_succ, okB_zero, okB_succ, okS_zero, okS_succ, okL_zero, okL_succ, isIntT_int, isBoolT_bool, isStrT_str, isSlT_sl, intOf_int, boolOf_bool, strOf_str, slOf_sl, treeOf_t, srVer_sref, srOff_sref, srLen_sref, ver_row, esOf_row, cellOf_box, aI_mk, aB_mk, aS_mk, aL_mk, aggOf_agg, join_eq, List.getD_cons_zero, List.getD_cons_succ, decide_true, decide_false, cnd_true, cnd_false, true_and, and_true, false_and, and_false, Option.bind_some, Option.bind_none, List.length_cons, List.length_nil, List.length_map, List.getElem?_map, Option.map_some, Option.map_none, Int.toNat_natCast, reduceCtorEq, eq_self, if_true, if_false, Nat.zero_add, Nat.reduceAdd, Nat.reduceEqDiff, Int.natCast_nonneg, List.drop_zero, or_true, true_or, or_false, false_or, Bool.not_true, Bool.not_false, Bool.false_eq_true, decide_eq_true_eq, ge_iff_le, gt_iff_lt, p2, p3, Int.le_refl, (show (0 : Int) < (i' : Int) by omega), Entry.enc, (show (0 : Int) ≤ 1 by omega), (show (1 : Int) ≤ (i' : Int) by omega), (show 1 < l.length by omega)]
              simp [popR, popT, Entry.enc]
          | some y =>
            have hj := lt_of_some hy
            have hi2 : es[i']? = some es[i'] := List.getElem?_eq_getElem (by omega)
            simp only [L22_2, vI_mk, vB_mk, vS_mk, vL_mk, sVer_mk, sOff_mk, sLen_mk, oVer_mk, oEs_mk, cI_mk, cB_mk, cS_mk, cL_mk, cVer_mk, cOff_mk, cLen_mk, gI_zero, gI_succ, gB_zero, gB_succ, gS_zero, gS_succ, gL_zero, gL_succ, okI_zero, okI_succ, okB_zero, okB_succ, okS_zero, okS_succ, okL_zero, okL_succ, isIntT_int, isBoolT_bool, isStrT_str, isSlT_sl, intOf_int, boolOf_bool, strOf_str, slOf_sl, treeOf_t, srVer_sref, srOff_sref, srLen_sref, ver_row, esOf_row, cellOf_box, aI_mk, aB_mk, aS_mk, aL_mk, aggOf_agg, join_eq, List.getD_cons_zero, List.getD_cons_succ, decide_true, decide_false, cnd_true, cnd_false, true_and, and_true, false_and, and_false, Option.bind_some, Option.bind_none, List.length_cons, List.length_nil, List.length_map, List.getElem?_map, Option.map_some, Option.map_none, Int.toNat_natCast, reduceCtorEq, eq_self, if_true, if_false, Nat.zero_add, Nat.reduceAdd, Nat.reduceEqDiff, Int.natCast_nonneg, List.drop_zero, or_true, true_or, or_false, false_or, Bool.not_true, Bool.not_false, Bool.false_eq_true, decide_eq_true_eq, ge_iff_le, gt_iff_lt, (show (j : Int) < (l.length : Int) by omega), hat, hy, hi2, Entry.enc, (show (i' : Int) < (l.length : Int) by omega), Nat.le_refl, w64_succ (show i' < 4611686018427387904 by omega), w64_succ (show j < 4611686018427387904 by omega), List.drop_succ_cons, List.append_nil]
            by_cases hpy : y.exp ≤ t
            · simp [hpy, cnd_eq, Rd.go_next]
            · simp [hpy, cnd_eq, Rd.go_next, List.map_set, Entry.enc]
    · have hi := lt_of_some hx
      simp only [L22_1, vI_mk, vB_mk, vS_mk, vL_mk, sVer_mk, sOff_mk, sLen_mk, oVer_mk, oEs_mk, cI_mk, cB_mk, cS_mk, cL_mk, cVer_mk, cOff_mk, cLen_mk, gI_zero, gI_succ, gB_zero, gB_succ, gS_zero, gS_succ, gL_zero, gL_succ, okI_zero, okI_succ, okB_zero, okB_succ, okS_zero, okS_succ, okL_zero, okL_succ, isIntT_int, isBoolT_bool, isStrT_str, isSlT_sl, intOf_int, boolOf_bool, strOf_str, slOf_sl, treeOf_t, srVer_sref, srOff_sref, srLen_sref, ver_row, esOf_row, cellOf_box, aI_mk, aB_mk, aS_mk, aL_mk, aggOf_agg, join_eq, List.getD_cons_zero, List.getD_cons_succ, decide_true, decide_false, cnd_true, cnd_false, true_and, and_true, false_and, and_false, Option.bind_some, Option.bind_none, List.length_cons, List.length_nil, List.length_map, List.getElem?_map, Option.map_some, Option.map_none, Int.toNat_natCast, reduceCtorEq, eq_self, if_true, if_false, Nat.zero_add, Nat.reduceAdd, Nat.reduceEqDiff, Int.natCast_nonneg, List.drop_zero, or_true, true_or, or_false, false_or, Bool.not_true, Bool.not_false, Bool.false_eq_true, decide_eq_true_eq, ge_iff_le, gt_iff_lt, hx, Entry.enc, (show (i : Int) < l.length by omega), w64_succ (show i < 4611686018427387904 by omega)]
      by_cases h : x.exp ≤ t <;> simp [h, cnd_eq, Rd.go_next, Rd.go_done]
    · simp only [L22_1, vI_mk, vB_mk, vS_mk, vL_mk, sVer_mk, sOff_mk, sLen_mk, oVer_mk, oEs_mk, cI_mk, cB_mk, cS_mk, cL_mk, cVer_mk, cOff_mk, cLen_mk, gI_zero, gI_succ, gB_zero, gB_succ, gS_zero, gS_succ, gL_zero, gL_succ, okI_zero, okI_succ, okB_zero, okB_succ, okS_zero, okS_succ, okL_zero, okL_succ, isIntT_int, isBoolT_bool, isStrT_str, isSlT_sl, intOf_int, boolOf_bool, strOf_str, slOf_sl, treeOf_t, srVer_sref, srOff_sref, srLen_sref, ver_row, esOf_row, cellOf_box, aI_mk, aB_mk, aS_mk, aL_mk, aggOf_agg, join_eq, List.getD_cons_zero, List.getD_cons_succ, decide_true, decide_false, cnd_true, cnd_false, true_and, and_true, false_and, and_false, Option.bind_some, Option.bind_none, List.length_cons, List.length_nil, List.length_map, List.getElem?_map, Option.map_some, Option.map_none, Int.toNat_natCast, reduceCtorEq, eq_self, if_true, if_false, Nat.zero_add, Nat.reduceAdd, Nat.reduceEqDiff, Int.natCast_nonneg, List.drop_zero, or_true, true_or, or_false, false_or, Bool.not_true, Bool.not_false, Bool.false_eq_true, decide_eq_true_eq, ge_iff_le, gt_iff_lt, Int.lt_irrefl]
  · rw [if_pos (by simp [c1])]
    refine (s26 l hl).mono fun n h1 => ?_
    simp only [h1, vI_mk, vB_mk, vS_mk, vL_mk, sVer_mk, sOff_mk, sLen_mk, oVer_mk, oEs_mk, cI_mk, cB_mk, cS_mk, cL_mk, cVer_mk, cOff_mk, cLen_mk, gI_zero, gI_succ, gB_zero, gB_succ, gS_zero, gS_succ, gL_zero, gL_succ, okI_zero, okI_succ, okB_zero, okB_succ, okS_zero, okS_succ, okL_zero, okL_succ, isIntT_int, isBoolT_bool, isStrT_str, isSlT_sl, intOf_int, boolOf_bool, strOf_str, slOf_sl, treeOf_t, srVer_sref, srOff_sref, srLen_sref, ver_row, esOf_row, cellOf_box, aI_mk, aB_mk, aS_mk, aL_mk, aggOf_agg, join_eq, List.getD_cons_zero, List.getD_cons_succ, decide_true, decide_false, cnd_true, cnd_false, true_and, and_true, false_and, and_false, Option.bind_some, Option.bind_none, List.length_cons, List.length_nil, List.length_map, List.getElem?_map, Option.map_some, Option.map_none, Int.toNat_natCast, reduceCtorEq, eq_self, if_true, if_false, Nat.zero_add, Nat.reduceAdd, Nat.reduceEqDiff, Int.natCast_nonneg, List.drop_zero, or_true, true_or, or_false, false_or, Bool.not_true, Bool.not_false, Bool.false_eq_true, decide_eq_true_eq, ge_iff_le, gt_iff_lt]
    simp [c1, cnd_eq, popT, zeroE, Entry.enc]
theorem big_great {n : Nat} (h : great n = false) : n ≤ 70 := by
  unfold great at h
  simp at h
  omega
theorem law8 (l : List Entry) (x : Entry) (now ticket : Int) : Runs C 8 (.sl 4 (l.map Entry.enc) :: (x.enc ++ [tI now, tI ticket])) [.bool true] := by
  refine Runs.of (fun n => e8 n _ _ _ _ _ _ _) ?_
  have hg := s20 (l.map Entry.enc)
  rw [List.length_map] at hg
  cases hgr : great l.length with
  | true =>
    rw [hgr] at hg
    refine (hg.and s12).mono fun n h => ?_
    simp only [h.1, h.2, vI_mk, vB_mk, vS_mk, vL_mk, sVer_mk, sOff_mk, sLen_mk, oVer_mk, oEs_mk, cI_mk, cB_mk, cS_mk, cL_mk, cVer_mk, cOff_mk, cLen_mk, gI_zero, gI_succ, gB_zero, gB_succ, gS_zero, gS_succ, gL_zero, gL_succ, okI_zero, okI_succ, okB_zero, okB_succ, okS_zero, okS_succ, okL_zero, okL_succ, isIntT_int, isBoolT_bool, isStrT_str, isSlT_sl, intOf_int, boolOf_bool, strOf_str, slOf_sl, treeOf_t, srVer_sref, srOff_sref, srLen_sref, ver_row, esOf_row, cellOf_box, aI_mk, aB_mk, aS_mk, aL_mk, aggOf_agg, join_eq, List.getD_cons_zero, List.getD_cons_succ, decide_true, decide_false, cnd_true, cnd_false, true_and, and_true, false_and, and_false, Option.bind_some, Option.bind_none, List.length_cons, List.length_nil, List.length_map, List.getElem?_map, Option.map_some, Option.map_none, Int.toNat_natCast, reduceCtorEq, eq_self, if_true, if_false, Nat.zero_add, Nat.reduceAdd, Nat.reduceEqDiff, Int.natCast_nonneg, List.drop_zero, or_true, true_or, or_false, false_or, Bool.not_true, Bool.not_false, Bool.false_eq_true, decide_eq_true_eq, ge_iff_le, gt_iff_lt]
  | false =>
    rw [hgr] at hg
    have h70 := big_great hgr
    have hl : l.length ≤ 1000000 := by omega
    have e0 : (removeQ l ticket).length ≤ l.length := List.length_filter_le _ _
    have e2 : (pushQ l x).1.length ≤ 1000000 := by
      unfold pushQ
      split
      · simp
      · split
        · simp
        · split
          · simp
          · split
            · simp
            · simp only [insQ, insB_len]; omega
    have e3 : (popQ l now).2.1.length ≤ 1000000 := by
      unfold popQ
      split
      · simp
      · have : (freshQ l now).length ≤ l.length := List.length_filter_le _ _
        cases hf : freshQ l now with
        | nil => simp [popR]
        | cons a r => rw [hf] at this; simp only [popR, List.length_cons] at *; omega
    have e4 : List.take (removeQ l ticket).length ((removeQ l ticket).map Entry.enc) = (removeQ l ticket).map Entry.enc := List.take_of_length_le (by simp)
    have base := hg.and (s12.and ((s17 l x hl).and ((s21 l x hl).and ((s22 l now hl).and ((s23 l now hl).and ((s26 l hl).and ((s27 l hl).and ((s28 (pushQ l x).1 (pushQ l x).1 e2).and ((s28 (popQ l now).2.1 (popQ l now).2.1 e3).and ((s1000029 l ticket hl).and ((s30 l ticket hl).and (s28 (removeQ l ticket) (removeQ l ticket) (by omega)))))))))))))
    cases l with
    | nil =>
      refine base.mono fun n h => ?_
      obtain ⟨h1, h2, h3, h4, h5, h6, h7, h8, h9, h10, h11, h12, h13⟩ := h
      simp only [Entry.enc, popT, List.cons_append, List.nil_append, List.map_nil] at h3 h4 h5 h6 h1 h7 h8 h11 h12
      simp only [h1, vI_mk, vB_mk, vS_mk, vL_mk, sVer_mk, sOff_mk, sLen_mk, oVer_mk, oEs_mk, cI_mk, cB_mk, cS_mk, cL_mk, cVer_mk, cOff_mk, cLen_mk, gI_zero, gI_succ, gB_zero, gB_succ, gS_zero, gS_succ, gL_zero, gL_succ, okI_zero, okI_succ, okB_zero, okB_succ, okS_zero, okS_succ, okL_zero, okL_succ, isIntT_int, isBoolT_bool, isStrT_str, isSlT_sl, intOf_int, boolOf_bool, strOf_str, slOf_sl, treeOf_t, srVer_sref, srOff_sref, srLen_sref, ver_row, esOf_row, cellOf_box, aI_mk, aB_mk, aS_mk, aL_mk, aggOf_agg, join_eq, List.getD_cons_zero, List.getD_cons_succ, decide_true, decide_false, cnd_true, cnd_false, true_and, and_true, false_and, and_false, Option.bind_some, Option.bind_none, List.length_cons, List.length_nil, List.length_map, List.getElem?_map, Option.map_some, Option.map_none, Int.toNat_natCast, reduceCtorEq, eq_self, if_true, if_false, Nat.zero_add, Nat.reduceAdd, Nat.reduceEqDiff, Int.natCast_nonneg, List.drop_zero, or_true, true_or, or_false, false_or, Bool.not_true, Bool.not_false, Bool.false_eq_true, decide_eq_true_eq, ge_iff_le, gt_iff_lt, h3, h4, h5, h6, J8_1, h7, h8, h9, h10, h11, h12, e4, h13, h2, beq_self_eq_true, List.map_nil, Int.natCast_zero, Int.lt_irrefl, Bool.and_self]
      first | done | rfl | simp [cnd_eq]
    | cons y r =>
      refine (base.and ((s24 x y).and (s25 x y))).mono fun n h => ?_
      obtain ⟨⟨h1, h2, h3, h4, h5, h6, h7, h8, h9, h10, h11, h12, h13⟩, h14, h15⟩ := h
      simp only [Entry.enc, popT, List.cons_append, List.nil_append, List.map_cons] at h3 h4 h5 h6 h14 h15 h1 h7 h8 h11 h12
      simp only [h1, vI_mk, vB_mk, vS_mk, vL_mk, sVer_mk, sOff_mk, sLen_mk, oVer_mk, oEs_mk, cI_mk, cB_mk, cS_mk, cL_mk, cVer_mk, cOff_mk, cLen_mk, gI_zero, gI_succ, gB_zero, gB_succ, gS_zero, gS_succ, gL_zero, gL_succ, okI_zero, okI_succ, okB_zero, okB_succ, okS_zero, okS_succ, okL_zero, okL_succ, isIntT_int, isBoolT_bool, isStrT_str, isSlT_sl, intOf_int, boolOf_bool, strOf_str, slOf_sl, treeOf_t, srVer_sref, srOff_sref, srLen_sref, ver_row, esOf_row, cellOf_box, aI_mk, aB_mk, aS_mk, aL_mk, aggOf_agg, join_eq, List.getD_cons_zero, List.getD_cons_succ, decide_true, decide_false, cnd_true, cnd_false, true_and, and_true, false_and, and_false, Option.bind_some, Option.bind_none, List.length_cons, List.length_nil, List.length_map, List.getElem?_map, Option.map_some, Option.map_none, Int.toNat_natCast, reduceCtorEq, eq_self, if_true, if_false, Nat.zero_add, Nat.reduceAdd, Nat.reduceEqDiff, Int.natCast_nonneg, List.drop_zero, or_true, true_or, or_false, false_or, Bool.not_true, Bool.not_false, Bool.false_eq_true, decide_eq_true_eq, ge_iff_le, gt_iff_lt, h3, h4, h5, h6, List.map_cons, List.getElem?_cons_zero, Entry.enc, (show (0 : Int) < ((r.length + 1 : Nat) : Int) by omega), h14, h15, beq_self_eq_true, J8_1, h7, h8, h9, h10, h11, h12, e4, h13, h2, Bool.and_self]
      first | done | rfl | simp [cnd_eq]

/-! ### Undoes -/
theorem insQ_good {l : List Entry} (hg : GoodQ l) {x : Entry} (hv : ValidE x) (hh : hasT l x.ticket = false) (hl : l.length ≠ 64) : GoodQ (insQ x l) := by
  rw [hasT_false] at hh
  refine ⟨by simp only [insQ, insB_len]; have := hg.len; omega, fun y hy => ?_, ?_, ?_⟩
  · rcases (insB_mem _ _ _ _).1 hy with rfl | hy
    · exact hv
    · exact hg.val y hy
  · have : ∀ y ∈ l, y.ticket ≠ x.ticket := hh
    rw [insQ_tw]
    have hd := hg.dis
    conv at hd => rw [← List.takeWhile_append_dropWhile (p := fun y => ahead y x) (l := l)]
    rw [List.pairwise_append] at hd
    obtain ⟨d1, d2, d3⟩ := hd
    have m1 : ∀ y ∈ l.takeWhile (fun y => ahead y x), y ∈ l := fun y hy => (List.takeWhile_sublist _).subset hy
    have m2 : ∀ y ∈ l.dropWhile (fun y => ahead y x), y ∈ l := fun y hy => (List.dropWhile_sublist _).subset hy
    rw [List.pairwise_append, List.pairwise_cons]
    refine ⟨d1, ⟨fun y hy => (this y (m2 y hy)).symm, d2⟩, fun a ha b hb => ?_⟩
    rcases List.mem_cons.1 hb with rfl | hb
    · exact this a (m1 a ha)
    · exact d3 a ha b hb
  · unfold insQ
    refine insB_pairwise hg.srt (fun y hy hn => ?_) (fun y hy hn => ?_) (fun a ha b hb hab hn => ?_)
    · have hna : ahead y x = false := by simpa using hn
      rcases ahead_tri (hh y hy) with h | h
      · rw [hna] at h; cases h
      · exact h
    · simpa using hn
    · have hna : ahead a x = false := by simpa using hn
      cases hbx : ahead b x with
      | false => rfl
      | true => rw [ahead_tr hab hbx] at hna; cases hna
theorem removeQ_ins {l : List Entry} {x : Entry} (hh : hasT l x.ticket = false) : removeQ (insQ x l) x.ticket = l := by
  unfold removeQ insQ
  rw [insB_filter _ _ _ _ (by simp), List.filter_eq_self]
  intro y hy
  rw [hasT_false] at hh
  simpa using hh y hy
theorem removeQ_none {l : List Entry} {t : Int} (hh : hasT l t = false) : removeQ l t = l := by
  unfold removeQ
  rw [List.filter_eq_self]
  intro y hy
  rw [hasT_false] at hh
  simpa using hh y hy
theorem law10 (l : List Entry) (x : Entry) : Runs C 10 (.sl 4 (l.map Entry.enc) :: x.enc) [.bool true] := by
  refine Runs.of (fun n => e10 n _ _ _ _ _) ?_
  have hg := s20 (l.map Entry.enc)
  rw [List.length_map] at hg
  cases hgr : great l.length with
  | true =>
    rw [hgr] at hg
    refine (hg.and s12).mono fun n h => ?_
    simp only [h.1, h.2, vI_mk, vB_mk, vS_mk, vL_mk, sVer_mk, sOff_mk, sLen_mk, oVer_mk, oEs_mk, cI_mk, cB_mk, cS_mk, cL_mk, cVer_mk, cOff_mk, cLen_mk, gI_zero, gI_succ, gB_zero, gB_succ, gS_zero, gS_succ, gL_zero, gL_succ, okI_zero, okI_succ, okB_zero, okB_succ, okS_zero, okS_succ, okL_zero, okL_succ, isIntT_int, isBoolT_bool, isStrT_str, isSlT_sl, intOf_int, boolOf_bool, strOf_str, slOf_sl, treeOf_t, srVer_sref, srOff_sref, srLen_sref, ver_row, esOf_row, cellOf_box, aI_mk, aB_mk, aS_mk, aL_mk, aggOf_agg, join_eq, List.getD_cons_zero, List.getD_cons_succ, decide_true, decide_false, cnd_true, cnd_false, true_and, and_true, false_and, and_false, Option.bind_some, Option.bind_none, List.length_cons, List.length_nil, List.length_map, List.getElem?_map, Option.map_some, Option.map_none, Int.toNat_natCast, reduceCtorEq, eq_self, if_true, if_false, Nat.zero_add, Nat.reduceAdd, Nat.reduceEqDiff, Int.natCast_nonneg, List.drop_zero, or_true, true_or, or_false, false_or, Bool.not_true, Bool.not_false, Bool.false_eq_true, decide_eq_true_eq, ge_iff_le, gt_iff_lt]
  | false =>
    rw [hgr] at hg
    have h70 := big_great hgr
    have hl : l.length ≤ 1000000 := by omega
    have h17 := s17 l x hl
    by_cases hc : checkQ l = 0 ∧ ValidE x ∧ hasT l x.ticket = false ∧ l.length ≠ 64
    · obtain ⟨c1, c2, c3, c4⟩ := hc
      have hp : pushQ l x = (insQ x l, 0) := by unfold pushQ; simp [c1, c2, c3, c4]
      rw [hp] at h17
      have hgood := (checkQ_zero l).1 c1
      have hgi := (checkQ_zero _).2 (insQ_good hgood c2 c3 c4)
      have hlen : (insQ x l).length = l.length + 1 := insB_len _ _ _
      have h26 := s26 (insQ x l) (by omega)
      rw [hgi] at h26
      have h29 := s1000029 (insQ x l) x.ticket (by omega)
      rw [removeQ_ins c3] at h29
      have h30 := s1000029 l x.ticket hl
      rw [removeQ_none c3] at h30
      have hmem : decide (x ∈ insQ x l) = true := by rw [decide_eq_true_eq]; exact (insB_mem _ _ _ _).2 (.inl rfl)
      have e4 : List.take l.length (l.map Entry.enc) = l.map Entry.enc := List.take_of_length_le (by simp)
      refine (hg.and (s12.and (h17.and ((s35 (insQ x l) x (by omega)).and (h26.and (h29.and (h30.and (s28 l l hl)))))))).mono fun n h => ?_
      obtain ⟨h1, h2, h3, h4, h5, h6, h7, h8⟩ := h
      simp only [Entry.enc] at h3
      simp only [h1, vI_mk, vB_mk, vS_mk, vL_mk, sVer_mk, sOff_mk, sLen_mk, oVer_mk, oEs_mk, cI_mk, cB_mk, cS_mk, cL_mk, cVer_mk, cOff_mk, cLen_mk, gI_zero, gI_succ, gB_zero, gB_succ, gS_zero, gS_succ, gL_zero, gL_succ, okI_zero, okI_succ, okB_zero, okB_succ, okS_zero, okS_succ, okL_zero, okL_succ, isIntT_int, isBoolT_bool, isStrT_str, isSlT_sl, intOf_int, boolOf_bool, strOf_str, slOf_sl, treeOf_t, srVer_sref, srOff_sref, srLen_sref, ver_row, esOf_row, cellOf_box, aI_mk, aB_mk, aS_mk, aL_mk, aggOf_agg, join_eq, List.getD_cons_zero, List.getD_cons_succ, decide_true, decide_false, cnd_true, cnd_false, true_and, and_true, false_and, and_false, Option.bind_some, Option.bind_none, List.length_cons, List.length_nil, List.length_map, List.getElem?_map, Option.map_some, Option.map_none, Int.toNat_natCast, reduceCtorEq, eq_self, if_true, if_false, Nat.zero_add, Nat.reduceAdd, Nat.reduceEqDiff, Int.natCast_nonneg, List.drop_zero, or_true, true_or, or_false, false_or, Bool.not_true, Bool.not_false, Bool.false_eq_true, decide_eq_true_eq, ge_iff_le, gt_iff_lt, h3, bne_self_eq_false, hlen, w64_succ (show l.length < 4611686018427387904 by omega), beq_self_eq_true, h4, hmem, h5, h6, e4, h8, h7, h2]
    · have hp : (pushQ l x).1 = [] ∧ (pushQ l x).2 ≠ 0 := by
        unfold pushQ
        split
        · simp
        · split
          · simp
          · split
            · simp
            · split
              · simp
              · rename_i a b c d
                exact absurd ⟨Classical.not_not.1 a, Classical.not_not.1 b, by simpa using c, d⟩ hc
      rw [hp.1] at h17
      refine (hg.and (s12.and h17)).mono fun n h => ?_
      obtain ⟨h1, h2, h3⟩ := h
      simp only [Entry.enc, List.map_nil] at h3
      have : ((pushQ l x).2 != 0) = true := by simp [hp.2]
      simp only [h1, vI_mk, vB_mk, vS_mk, vL_mk, sVer_mk, sOff_mk, sLen_mk, oVer_mk, oEs_mk, cI_mk, cB_mk, cS_mk, cL_mk, cVer_mk, cOff_mk, cLen_mk, gI_zero, gI_succ, gB_zero, gB_succ, gS_zero, gS_succ, gL_zero, gL_succ, okI_zero, okI_succ, okB_zero, okB_succ, okS_zero, okS_succ, okL_zero, okL_succ, isIntT_int, isBoolT_bool, isStrT_str, isSlT_sl, intOf_int, boolOf_bool, strOf_str, slOf_sl, treeOf_t, srVer_sref, srOff_sref, srLen_sref, ver_row, esOf_row, cellOf_box, aI_mk, aB_mk, aS_mk, aL_mk, aggOf_agg, join_eq, List.getD_cons_zero, List.getD_cons_succ, decide_true, decide_false, cnd_true, cnd_false, true_and, and_true, false_and, and_false, Option.bind_some, Option.bind_none, List.length_cons, List.length_nil, List.length_map, List.getElem?_map, Option.map_some, Option.map_none, Int.toNat_natCast, reduceCtorEq, eq_self, if_true, if_false, Nat.zero_add, Nat.reduceAdd, Nat.reduceEqDiff, Int.natCast_nonneg, List.drop_zero, or_true, true_or, or_false, false_or, Bool.not_true, Bool.not_false, Bool.false_eq_true, decide_eq_true_eq, ge_iff_le, gt_iff_lt, h3, this, Int.natCast_zero, beq_self_eq_true, h2]
end Ab

set_option linter.unusedVariables false
set_option linter.unusedSimpArgs false
namespace Ab
open Go


theorem GoodQ.sub {l l' : List Entry} (h : GoodQ l) (s : l'.Sublist l) : GoodQ l' :=
  ⟨Nat.le_trans s.length_le h.len, fun x hx => h.val x (s.subset hx), h.dis.sublist s, h.srt.sublist s⟩
theorem GoodQ.nil : GoodQ [] := ⟨by simp, by simp, by simp, by simp⟩
theorem srt_ext : ∀ {a b : List Entry}, (a.Pairwise fun a b => ahead a b = true) → (b.Pairwise fun a b => ahead a b = true) → (∀ x, x ∈ a ↔ x ∈ b) → a = b
  | [], [], _, _, _ => rfl
  | [], y :: b, _, _, h => absurd ((h y).2 (by simp)) (by simp)
  | x :: a, [], _, _, h => absurd ((h x).1 (by simp)) (by simp)
  | x :: a, y :: b, ha, hb, h => by
    rw [List.pairwise_cons] at ha hb
    have hxy : x = y := by
      have h1 := (h x).1 (by simp)
      have h2 := (h y).2 (by simp)
      rw [List.mem_cons] at h1 h2
      rcases h1 with h1 | h1
      · exact h1
      · rcases h2 with h2 | h2
        · exact h2.symm
        · have := ahead_asym (ha.1 y h2)
          rw [hb.1 x h1] at this
          cases this
    subst hxy
    congr 1
    refine srt_ext ha.2 hb.2 fun z => ?_
    constructor
    · intro hz
      rcases List.mem_cons.1 ((h z).1 (by simp [hz])) with h1 | h1
      · subst h1; have := ha.1 z hz; rw [ahead_irr] at this; cases this
      · exact h1
    · intro hz
      rcases List.mem_cons.1 ((h z).2 (by simp [hz])) with h1 | h1
      · subst h1; have := hb.1 z hz; rw [ahead_irr] at this; cases this
      · exact h1
def push1 (q : List Entry) (x : Entry) : List Entry := if (pushQ q x).2 = 0 then (pushQ q x).1 else q
def pushAll (m : List Entry) : List Entry := m.foldl push1 []
theorem push1_spec {q : List Entry} (hg : GoodQ q) (x : Entry) : GoodQ (push1 q x) ∧ (push1 q x).length ≤ q.length + 1 ∧ (hasT q x.ticket = false → q.length < 64 → ∀ y, y ∈ push1 q x ↔ y ∈ q ∨ y = x ∧ ValidE x) := by
  unfold push1 pushQ
  have c1 := (checkQ_zero q).2 hg
  simp only [c1, ne_eq, not_true, if_false]
  by_cases c2 : ValidE x
  · rw [if_neg (not_not_intro c2)]
    cases c3 : hasT q x.ticket with
    | true => simp [hg]
    | false =>
      by_cases c4 : q.length = 64
      · simp [c4, hg]
      · simp only [Bool.false_eq_true, if_false, if_neg c4, if_true]
        refine ⟨insQ_good hg c2 c3 c4, by simp [insQ, insB_len], fun _ _ y => ?_⟩
        unfold insQ
        rw [insB_mem]
        constructor
        · rintro (rfl | h)
          · exact .inr ⟨rfl, c2⟩
          · exact .inl h
        · rintro (h | ⟨rfl, _⟩)
          · exact .inr h
          · exact .inl rfl
  · rw [if_pos c2]
    simp [hg, c2]
theorem pushAll_spec : ∀ (m q : List Entry), GoodQ q → (q ++ m).length ≤ 64 → ((q ++ m).Pairwise fun a b => a.ticket ≠ b.ticket) → GoodQ (m.foldl push1 q) ∧ (m.foldl push1 q).length ≤ q.length + m.length ∧ ∀ y, y ∈ m.foldl push1 q ↔ y ∈ q ∨ y ∈ m ∧ ValidE y
  | [], q, hg, _, _ => ⟨hg, by simp, by simp⟩
  | x :: m, q, hg, hl, hd => by
    obtain ⟨h1, h2, h3⟩ := push1_spec hg x
    simp only [List.length_append, List.length_cons] at hl
    have hq : ∀ y ∈ q, y.ticket ≠ x.ticket := fun y hy => (List.pairwise_append.1 hd).2.2 y hy x (by simp)
    have h3' := h3 ((hasT_false _ _).2 hq) (by omega)
    have hd2 : ((push1 q x) ++ m).Pairwise fun a b => a.ticket ≠ b.ticket := by
      rw [List.pairwise_append] at hd ⊢
      obtain ⟨d1, d2, d3⟩ := hd
      rw [List.pairwise_cons] at d2
      refine ⟨h1.dis, d2.2, fun a ha b hb => ?_⟩
      rcases (h3' a).1 ha with h | ⟨rfl, _⟩
      · exact d3 a h b (by simp [hb])
      · exact d2.1 b hb
    have ih := pushAll_spec m (push1 q x) h1 (by simp only [List.length_append]; omega) hd2
    rw [List.foldl_cons]
    refine ⟨ih.1, by have := ih.2.1; simp only [List.length_cons]; omega, fun y => ?_⟩
    rw [ih.2.2 y, h3' y, List.mem_cons]
    constructor
    · rintro ((h | ⟨rfl, h⟩) | h)
      · exact .inl h
      · exact .inr ⟨.inl rfl, h⟩
      · exact .inr ⟨.inr h.1, h.2⟩
    · rintro (h | ⟨rfl | h, hv⟩)
      · exact .inl (.inl h)
      · exact .inl (.inr ⟨rfl, hv⟩)
      · exact .inr ⟨h, hv⟩
theorem pushAll_perm {m m' : List Entry} (hp : m'.Perm m) (hl : m.length ≤ 64) (hd : m.Pairwise fun a b => a.ticket ≠ b.ticket) : pushAll m' = pushAll m := by
  have hd' : m'.Pairwise fun a b => a.ticket ≠ b.ticket := (hp.pairwise_iff fun h => Ne.symm h).2 hd
  obtain ⟨a1, _, a3⟩ := pushAll_spec m [] GoodQ.nil (by simpa using hl) (by simpa using hd)
  obtain ⟨b1, _, b3⟩ := pushAll_spec m' [] GoodQ.nil (by simpa [hp.length_eq] using hl) (by simpa using hd')
  refine srt_ext b1.srt a1.srt fun x => ?_
  show x ∈ m'.foldl push1 [] ↔ x ∈ m.foldl push1 []
  rw [b3 x, a3 x, hp.mem_iff]

/-! ### the loops, from the last one -/
theorem fresh_idem (l : List Entry) (t : Int) : freshQ (freshQ l t) t = freshQ l t := by
  unfold freshQ
  rw [List.filter_filter]
  congr 1
  funext x
  simp
theorem fresh_good {l : List Entry} (h : GoodQ l) (t : Int) : GoodQ (freshQ l t) := h.sub List.filter_sublist
theorem o10 (q : List Entry) (hq : GoodQ q) (now : Int) (p18 p33 : List AV × Heap) (hv : vL p18 0 = q.map Entry.enc) (hb : vB p33 0 = false) : Ev fun n => J9_11 n p18 now p33 = some [.bool true] := by
  have hql := hq.len
  have key := loop_overQ (R := List Tree) (B := fun n p again => L9_10 n p18 now p again) (s := (([.t (.sl 4 (q.map Entry.enc)), .t (tI 0)], [.row false (oVer p33 0) 4 (oEs p33 0)]) : List AV × Heap)) (fun r => [Tree.bool r]) q
    (fun i (r : List Entry) => (([.t (.sl 4 (r.map Entry.enc)), .t (tI i)], [.row false (oVer p33 0) 4 (oEs p33 0)]) : List AV × Heap)) (fun i r x => .next (if x.exp ≤ now then r else freshQ (q.drop (i + 1)) now)) (fun _ => true)
    (fun i r => GoodQ r ∧ freshQ r now = freshQ (q.drop i) now) q rfl ⟨hq, by simp⟩ (r := true) ?_
    (fun i r x hx hI => ?_) (fun i r x r' hx hI hr' => ?_) (fun r hI => ?_)
  · refine key.mono fun n h => ?_
    simp only [J9_11, hb, hv, vI_mk, vB_mk, vS_mk, vL_mk, sVer_mk, sOff_mk, sLen_mk, oVer_mk, oEs_mk, cI_mk, cB_mk, cS_mk, cL_mk, cVer_mk, cOff_mk, cLen_mk, gI_zero, gI_succ, gB_zero, gB_succ, gS_zero, gS_succ, gL_zero, gL_succ, okI_zero, okI_succ, okB_zero, okB_succ, okS_zero, okS_succ, okL_zero, okL_succ, isIntT_int, isBoolT_bool, isStrT_str, isSlT_sl, intOf_int, boolOf_bool, strOf_str, slOf_sl, treeOf_t, srVer_sref, srOff_sref, srLen_sref, ver_row, esOf_row, cellOf_box, aI_mk, aB_mk, aS_mk, aL_mk, aggOf_agg, join_eq, List.getD_cons_zero, List.getD_cons_succ, decide_true, decide_false, cnd_true, cnd_false, true_and, and_true, false_and, and_false, Option.bind_some, Option.bind_none, List.length_cons, List.length_nil, List.length_map, List.getElem?_map, Option.map_some, Option.map_none, Int.toNat_natCast, reduceCtorEq, eq_self, if_true, if_false, Nat.zero_add, Nat.reduceAdd, Nat.reduceEqDiff, Int.natCast_nonneg, List.drop_zero, or_true, true_or, or_false, false_or, Bool.not_true, Bool.not_false, Bool.false_eq_true, decide_eq_true_eq, ge_iff_le, gt_iff_lt]
    exact h
  · have : ∀ (l : List Entry) (i : Nat) (s : List Entry), runL (fun i r (x : Entry) => Rd.next (if x.exp ≤ now then r else freshQ (q.drop (i + 1)) now)) (fun _ => true) i l s = true := by
      intro l
      induction l with
      | nil => intro i s; rfl
      | cons x l ih => intro i s; exact ih _ _
    exact this q 0 q
  · have hi := lt_of_some hx
    obtain ⟨h1, h2⟩ := hI
    have hrl := h1.len
    have hd : q.drop i = x :: q.drop (i + 1) := by
      rw [List.drop_eq_getElem_cons hi]
      rw [List.getElem?_eq_getElem hi] at hx
      cases hx
      rfl
    by_cases hx0 : x.exp ≤ now
    · refine Ev.of fun n again => ?_
      simp only [L9_10, J9_5, hv, vI_mk, vB_mk, vS_mk, vL_mk, sVer_mk, sOff_mk, sLen_mk, oVer_mk, oEs_mk, cI_mk, cB_mk, cS_mk, cL_mk, cVer_mk, cOff_mk, cLen_mk, gI_zero, gI_succ, gB_zero, gB_succ, gS_zero, gS_succ, gL_zero, gL_succ, okI_zero, okI_succ, okB_zero, okB_succ, okS_zero, okS_succ, okL_zero, okL_succ, isIntT_int, isBoolT_bool, isStrT_str, isSlT_sl, intOf_int, boolOf_bool, strOf_str, slOf_sl, treeOf_t, srVer_sref, srOff_sref, srLen_sref, ver_row, esOf_row, cellOf_box, aI_mk, aB_mk, aS_mk, aL_mk, aggOf_agg, join_eq, List.getD_cons_zero, List.getD_cons_succ, decide_true, decide_false, cnd_true, cnd_false, true_and, and_true, false_and, and_false, Option.bind_some, Option.bind_none, List.length_cons, List.length_nil, List.length_map, List.getElem?_map, Option.map_some, Option.map_none, Int.toNat_natCast, reduceCtorEq, eq_self, if_true, if_false, Nat.zero_add, Nat.reduceAdd, Nat.reduceEqDiff, Int.natCast_nonneg, List.drop_zero, or_true, true_or, or_false, false_or, Bool.not_true, Bool.not_false, Bool.false_eq_true, decide_eq_true_eq, ge_iff_le, gt_iff_lt, hx, Entry.enc, (show (i : Int) < q.length by omega), hx0, w64_succ (show i < 4611686018427387904 by omega), Rd.go_next]
    · have hp : popQ r now = (x, freshQ (q.drop (i + 1)) now, 0) := by
        unfold popQ
        rw [if_neg (by simp [(checkQ_zero r).2 h1]), h2, hd]
        unfold freshQ
        rw [List.filter_cons_of_pos (by simp; omega)]
        rfl
      have h22 := s22 r now (by omega)
      rw [hp] at h22
      have hg2 : GoodQ (freshQ (q.drop (i + 1)) now) := fresh_good (hq.sub (List.drop_sublist _ _)) now
      have h26 := s26 (freshQ (q.drop (i + 1)) now) (by have := hg2.len; omega)
      rw [(checkQ_zero _).2 hg2] at h26
      refine (h22.and h26).mono fun n h again => ?_
      obtain ⟨k1, k2⟩ := h
      simp only [popT, Entry.enc, List.cons_append, List.nil_append] at k1
      simp only [L9_10, J9_5, hv, vI_mk, vB_mk, vS_mk, vL_mk, sVer_mk, sOff_mk, sLen_mk, oVer_mk, oEs_mk, cI_mk, cB_mk, cS_mk, cL_mk, cVer_mk, cOff_mk, cLen_mk, gI_zero, gI_succ, gB_zero, gB_succ, gS_zero, gS_succ, gL_zero, gL_succ, okI_zero, okI_succ, okB_zero, okB_succ, okS_zero, okS_succ, okL_zero, okL_succ, isIntT_int, isBoolT_bool, isStrT_str, isSlT_sl, intOf_int, boolOf_bool, strOf_str, slOf_sl, treeOf_t, srVer_sref, srOff_sref, srLen_sref, ver_row, esOf_row, cellOf_box, aI_mk, aB_mk, aS_mk, aL_mk, aggOf_agg, join_eq, List.getD_cons_zero, List.getD_cons_succ, decide_true, decide_false, cnd_true, cnd_false, true_and, and_true, false_and, and_false, Option.bind_some, Option.bind_none, List.length_cons, List.length_nil, List.length_map, List.getElem?_map, Option.map_some, Option.map_none, Int.toNat_natCast, reduceCtorEq, eq_self, if_true, if_false, Nat.zero_add, Nat.reduceAdd, Nat.reduceEqDiff, Int.natCast_nonneg, List.drop_zero, or_true, true_or, or_false, false_or, Bool.not_true, Bool.not_false, Bool.false_eq_true, decide_eq_true_eq, ge_iff_le, gt_iff_lt, hx, Entry.enc, (show (i : Int) < q.length by omega), hx0, k1, bne_self_eq_false, beq_self_eq_true, Bool.and_self, k2, w64_succ (show i < 4611686018427387904 by omega), Rd.go_next]
  · have hi := lt_of_some hx
    obtain ⟨h1, h2⟩ := hI
    simp only [Rd.next.injEq] at hr'
    subst hr'
    have hd : q.drop i = x :: q.drop (i + 1) := by
      rw [List.drop_eq_getElem_cons hi]
      rw [List.getElem?_eq_getElem hi] at hx
      cases hx
      rfl
    by_cases hx0 : x.exp ≤ now
    · rw [if_pos hx0]
      refine ⟨h1, ?_⟩
      rw [h2, hd]
      unfold freshQ
      rw [List.filter_cons_of_neg (by simp; omega)]
    · rw [if_neg hx0]
      exact ⟨fresh_good (hq.sub (List.drop_sublist _ _)) now, fresh_idem _ _⟩
  · obtain ⟨h1, h2⟩ := hI
    have hp : popQ r now = (zeroE, [], 20) := by
      unfold popQ
      rw [if_neg (by simp [(checkQ_zero r).2 h1]), h2, List.drop_length]
      rfl
    have h22 := s22 r now (by have := h1.len; omega)
    rw [hp] at h22
    refine (h22.and s12).mono fun n h again => ?_
    obtain ⟨k1, k2⟩ := h
    simp only [popT, Entry.enc, zeroE, List.cons_append, List.nil_append, List.map_nil] at k1
    simp only [L9_10, hv, vI_mk, vB_mk, vS_mk, vL_mk, sVer_mk, sOff_mk, sLen_mk, oVer_mk, oEs_mk, cI_mk, cB_mk, cS_mk, cL_mk, cVer_mk, cOff_mk, cLen_mk, gI_zero, gI_succ, gB_zero, gB_succ, gS_zero, gS_succ, gL_zero, gL_succ, okI_zero, okI_succ, okB_zero, okB_succ, okS_zero, okS_succ, okL_zero, okL_succ, isIntT_int, isBoolT_bool, isStrT_str, isSlT_sl, intOf_int, boolOf_bool, strOf_str, slOf_sl, treeOf_t, srVer_sref, srOff_sref, srLen_sref, ver_row, esOf_row, cellOf_box, aI_mk, aB_mk, aS_mk, aL_mk, aggOf_agg, join_eq, List.getD_cons_zero, List.getD_cons_succ, decide_true, decide_false, cnd_true, cnd_false, true_and, and_true, false_and, and_false, Option.bind_some, Option.bind_none, List.length_cons, List.length_nil, List.length_map, List.getElem?_map, Option.map_some, Option.map_none, Int.toNat_natCast, reduceCtorEq, eq_self, if_true, if_false, Nat.zero_add, Nat.reduceAdd, Nat.reduceEqDiff, Int.natCast_nonneg, List.drop_zero, or_true, true_or, or_false, false_or, Bool.not_true, Bool.not_false, Bool.false_eq_true, decide_eq_true_eq, ge_iff_le, gt_iff_lt, Int.lt_irrefl, k1, beq_self_eq_true, k2, J9_9]
/-- Pushing again, comparing. -/
theorem o4 (m : List Entry) (hm : m.length ≤ 12) (q : List Entry) (hpq : pushAll m = q) (hq : GoodQ q) (hd : m.Pairwise fun a b => a.ticket ≠ b.ticket) (now : Int) (p4 p18 : List AV × Heap) (hv : vL p18 0 = q.map Entry.enc) (hsv : sVer p4 0 = m.length) (hso : sOff p4 0 = 0) (hsl : sLen p4 0 = m.length) :
    Ev fun n => loopIter (fun p again => L9_4 n p4 p18 (fun p33 => J9_11 n p18 now p33) p again) n ([.t (.sl 4 []), .t (tI 0)], [.row false m.length 4 (m.map Entry.enc)]) = some [.bool true] := by
  have hql := hq.len
  refine loop_overQ (fun r => [Tree.bool r]) m (fun i (r : List Entry) => (([.t (.sl 4 (r.map Entry.enc)), .t (tI i)], [.row false m.length 4 (m.map Entry.enc)]) : List AV × Heap)) (fun i r x => .next (push1 r x)) (fun _ => true)
    (fun i r => r = (m.take i).foldl push1 [] ∧ r.length ≤ i) [] rfl ⟨rfl, by simp⟩ (runL_fold push1 (fun _ => true) 0 m [])
    (fun i r x hx hI => ?_) (fun i r x r' hx hI hr' => ?_) (fun r hI => ?_)
  · have hi := lt_of_some hx
    obtain ⟨h1, h2⟩ := hI
    refine (s17 r x (by omega)).mono fun n h again => ?_
    simp only [Entry.enc] at h
    simp only [L9_4, hsv, hso, hsl, vI_mk, vB_mk, vS_mk, vL_mk, sVer_mk, sOff_mk, sLen_mk, oVer_mk, oEs_mk, cI_mk, cB_mk, cS_mk, cL_mk, cVer_mk, cOff_mk, cLen_mk, gI_zero, gI_succ, gB_zero, gB_succ, gS_zero, gS_succ, gL_zero, gL_succ, okI_zero, okI_succ, okB_zero, okB_succ, okS_zero, okS_succ, okL_zero, okL_succ, isIntT_int, isBoolT_bool, isStrT_str, isSlT_sl, intOf_int, boolOf_bool, strOf_str, slOf_sl, treeOf_t, srVer_sref, srOff_sref, srLen_sref, ver_row, esOf_row, cellOf_box, aI_mk, aB_mk, aS_mk, aL_mk, aggOf_agg, join_eq, List.getD_cons_zero, List.getD_cons_succ, decide_true, decide_false, cnd_true, cnd_false, true_and, and_true, false_and, and_false, Option.bind_some, Option.bind_none, List.length_cons, List.length_nil, List.length_map, List.getElem?_map, Option.map_some, Option.map_none, Int.toNat_natCast, reduceCtorEq, eq_self, if_true, if_false, Nat.zero_add, Nat.reduceAdd, Nat.reduceEqDiff, Int.natCast_nonneg, List.drop_zero, or_true, true_or, or_false, false_or, Bool.not_true, Bool.not_false, Bool.false_eq_true, decide_eq_true_eq, ge_iff_le, gt_iff_lt, hx, Entry.enc, (show (i : Int) < m.length by omega), h, w64_succ (show i < 4611686018427387904 by omega), Rd.go_next, push1, beq_iff_eq]
    by_cases h0 : (pushQ r x).2 = 0 <;> simp [h0, cnd_eq]
  · have hi := lt_of_some hx
    obtain ⟨h1, h2⟩ := hI
    simp only [Rd.next.injEq] at hr'
    subst hr'
    have ht : m.take (i + 1) = m.take i ++ [x] := by rw [List.take_add_one, hx]; rfl
    have hg : GoodQ r := by
      rw [h1]
      exact (pushAll_spec (m.take i) [] GoodQ.nil (by simp; omega) (by simpa using hd.sublist (List.take_sublist _ _))).1
    refine ⟨by rw [ht, List.foldl_append, ← h1]; rfl, ?_⟩
    have := (push1_spec hg x).2.1
    omega
  · obtain ⟨h1, h2⟩ := hI
    rw [List.take_length] at h1
    have hrq : r = q := by rw [h1]; exact hpq
    subst hrq
    have h26 := s26 r (by omega)
    rw [(checkQ_zero _).2 hq] at h26
    refine ((s28 r r (by omega)).and (h26.and (o10 r hq now p18 ([.t (.bool false)], [.row false m.length 4 (m.map Entry.enc)]) hv rfl))).mono fun n h again => ?_
    obtain ⟨k1, k2, k3⟩ := h
    simp only [L9_4, hsv, hso, hsl, hv, vI_mk, vB_mk, vS_mk, vL_mk, sVer_mk, sOff_mk, sLen_mk, oVer_mk, oEs_mk, cI_mk, cB_mk, cS_mk, cL_mk, cVer_mk, cOff_mk, cLen_mk, gI_zero, gI_succ, gB_zero, gB_succ, gS_zero, gS_succ, gL_zero, gL_succ, okI_zero, okI_succ, okB_zero, okB_succ, okS_zero, okS_succ, okL_zero, okL_succ, isIntT_int, isBoolT_bool, isStrT_str, isSlT_sl, intOf_int, boolOf_bool, strOf_str, slOf_sl, treeOf_t, srVer_sref, srOff_sref, srLen_sref, ver_row, esOf_row, cellOf_box, aI_mk, aB_mk, aS_mk, aL_mk, aggOf_agg, join_eq, List.getD_cons_zero, List.getD_cons_succ, decide_true, decide_false, cnd_true, cnd_false, true_and, and_true, false_and, and_false, Option.bind_some, Option.bind_none, List.length_cons, List.length_nil, List.length_map, List.getElem?_map, Option.map_some, Option.map_none, Int.toNat_natCast, reduceCtorEq, eq_self, if_true, if_false, Nat.zero_add, Nat.reduceAdd, Nat.reduceEqDiff, Int.natCast_nonneg, List.drop_zero, or_true, true_or, or_false, false_or, Bool.not_true, Bool.not_false, Bool.false_eq_true, decide_eq_true_eq, ge_iff_le, gt_iff_lt, Int.lt_irrefl, k1, k2, bne_self_eq_false, k3]
def encB (n : Int) : List Tree := [.int .u8 n]
/-- Exchanging elements. -/
theorem o12 (m : List Entry) (hm : m.length ≤ 12) (hd : m.Pairwise fun a b => a.ticket ≠ b.ticket) (q : List Entry) (hpq : pushAll m = q) (hq : GoodQ q) (ord : List Int) (ho : ∀ b ∈ ord, 0 ≤ b ∧ b ≤ 255) (hol : ord.length ≤ 9223372036854775807) (now : Int) (p4 p18 : List AV × Heap) (hv : vL p18 0 = q.map Entry.enc) (hsv : sVer p4 0 = m.length) (hso : sOff p4 0 = 0) (hsl : sLen p4 0 = m.length) :
    Ev fun n => loopIter (fun p again => L9_12 n (ord.map encB) p4 p18 now p again) n ([.t (tI 0)], [.row false m.length 4 (m.map Entry.enc)]) = some [.bool true] := by
  refine loop_overQ (fun r => [Tree.bool r]) ord (fun i (r : List Entry) => (([.t (tI i)], [.row false m.length 4 (r.map Entry.enc)]) : List AV × Heap))
    (fun i r b => .next (if m.length = 0 then r else match r[i % m.length]?, r[b.toNat % m.length]? with
      | some u, some v => (r.set (i % m.length) v).set (b.toNat % m.length) u
      | _, _ => r)) (fun _ => true)
    (fun i r => r.Perm m) m rfl (List.Perm.refl _) (r := true) ?_
    (fun i r b hb hI => Ev.of fun n again => ?_) (fun i r b r' hb hI hr' => ?_) (fun r hI => ?_)
  · have : ∀ (f : Nat → List Entry → Int → List Entry) (l : List Int) (i : Nat) (s : List Entry), runL (fun i r b => Rd.next (f i r b)) (fun _ => true) i l s = true := by
      intro f l
      induction l with
      | nil => intro i s; rfl
      | cons x l ih => intro i s; exact ih _ _
    exact this _ ord 0 m
  · have hi := lt_of_some hb
    have hbb := ho b (List.mem_of_getElem? hb)
    have hrl : r.length = m.length := hI.length_eq
    have hwi : w64 ((i : Int) + 1) = ((i + 1 : Nat) : Int) := by rw [w64_id (by omega) (by omega)]; omega
    have hwb : w64 b = b := w64_id (by omega) (by omega)
    by_cases h0 : m.length = 0
    · simp only [L9_12, hsv, hso, hsl, vI_mk, vB_mk, vS_mk, vL_mk, sVer_mk, sOff_mk, sLen_mk, oVer_mk, oEs_mk, cI_mk, cB_mk, cS_mk, cL_mk, cVer_mk, cOff_mk, cLen_mk, gI_zero, gI_succ, gB_zero, gB_succ, gS_zero, gS_succ, gL_zero, gL_succ, okI_zero, okI_succ, okB_zero, okB_succ, okS_zero, okS_succ, okL_zero, okL_succ, isIntT_int, isBoolT_bool, isStrT_str, isSlT_sl, intOf_int, boolOf_bool, strOf_str, slOf_sl, treeOf_t, srVer_sref, srOff_sref, srLen_sref, ver_row, esOf_row, cellOf_box, aI_mk, aB_mk, aS_mk, aL_mk, aggOf_agg, join_eq, List.getD_cons_zero, List.getD_cons_succ, decide_true, decide_false, cnd_true, cnd_false, true_and, and_true, false_and, and_false, Option.bind_some, Option.bind_none, List.length_cons, List.length_nil, List.length_map, List.getElem?_map, Option.map_some, Option.map_none, Int.toNat_natCast, reduceCtorEq, eq_self, if_true, if_false, Nat.zero_add, Nat.reduceAdd, Nat.reduceEqDiff, Int.natCast_nonneg, List.drop_zero, or_true, true_or, or_false, false_or, Bool.not_true, Bool.not_false, Bool.false_eq_true, decide_eq_true_eq, ge_iff_le, gt_iff_lt, hb, encB, (show (i : Int) < ord.length by omega), List.getD_cons_zero, isIntT_int, h0, (show ¬ (0 : Int) < ((0 : Nat) : Int) by omega), hwi, Rd.go_next]
    · have t1 : Int.tmod b (m.length : Int) = ((b.toNat % m.length : Nat) : Int) := by
        rw [Int.tmod_eq_emod_of_nonneg hbb.1, Int.natCast_emod, Int.toNat_of_nonneg hbb.1]
      have t2 : Int.tmod (i : Int) (m.length : Int) = ((i % m.length : Nat) : Int) := by
        rw [Int.tmod_eq_emod_of_nonneg (by omega), Int.natCast_emod]
      have l1 : b.toNat % m.length < m.length := Nat.mod_lt _ (by omega)
      have l2 : i % m.length < m.length := Nat.mod_lt _ (by omega)
      have g1 : r[b.toNat % m.length]? = some r[b.toNat % m.length] := List.getElem?_eq_getElem (by omega)
      have g2 : r[i % m.length]? = some r[i % m.length] := List.getElem?_eq_getElem (by omega)
      have g3 : (List.set (r.map Entry.enc) (i % m.length) (r[b.toNat % m.length]).enc)[b.toNat % m.length]? = some ((r.set (i % m.length) r[b.toNat % m.length])[b.toNat % m.length]'(by simp; omega)).enc := by
        rw [← List.map_set, List.getElem?_map, List.getElem?_eq_getElem (by simp; omega)]
        rfl
      generalize (r.set (i % m.length) r[b.toNat % m.length])[b.toNat % m.length]'(by simp; omega) = z at g3
      simp only [Entry.enc] at g3
      simp only [L9_12, hsv, hso, hsl, vI_mk, vB_mk, vS_mk, vL_mk, sVer_mk, sOff_mk, sLen_mk, oVer_mk, oEs_mk, cI_mk, cB_mk, cS_mk, cL_mk, cVer_mk, cOff_mk, cLen_mk, gI_zero, gI_succ, gB_zero, gB_succ, gS_zero, gS_succ, gL_zero, gL_succ, okI_zero, okI_succ, okB_zero, okB_succ, okS_zero, okS_succ, okL_zero, okL_succ, isIntT_int, isBoolT_bool, isStrT_str, isSlT_sl, intOf_int, boolOf_bool, strOf_str, slOf_sl, treeOf_t, srVer_sref, srOff_sref, srLen_sref, ver_row, esOf_row, cellOf_box, aI_mk, aB_mk, aS_mk, aL_mk, aggOf_agg, join_eq, List.getD_cons_zero, List.getD_cons_succ, decide_true, decide_false, cnd_true, cnd_false, true_and, and_true, false_and, and_false, Option.bind_some, Option.bind_none, List.length_cons, List.length_nil, List.length_map, List.getElem?_map, Option.map_some, Option.map_none, Int.toNat_natCast, reduceCtorEq, eq_self, if_true, if_false, Nat.zero_add, Nat.reduceAdd, Nat.reduceEqDiff, Int.natCast_nonneg, List.drop_zero, or_true, true_or, or_false, false_or, Bool.not_true, Bool.not_false, Bool.false_eq_true, decide_eq_true_eq, ge_iff_le, gt_iff_lt, hb, encB, (show (i : Int) < ord.length by omega), List.getD_cons_zero, isIntT_int, (show (0 : Int) < (m.length : Int) by omega), (show ¬ (m.length : Int) = 0 by omega), hwb, t1, t2, (show ((b.toNat % m.length : Nat) : Int) < (m.length : Int) by omega), (show ((i % m.length : Nat) : Int) < (m.length : Int) by omega), g1, g2, Entry.enc, Nat.le_refl, List.drop_succ_cons, List.append_nil, g3, List.drop_nil, List.cons_append, List.nil_append, hwi, Rd.go_next, h0]
      simp [List.map_set, Entry.enc]
  · have hrl : r.length = m.length := List.Perm.length_eq hI
    simp only [Rd.next.injEq] at hr'
    subst hr'
    split
    · exact hI
    · rename_i h0
      have l1 : b.toNat % m.length < m.length := Nat.mod_lt _ (by omega)
      have l2 : i % m.length < m.length := Nat.mod_lt _ (by omega)
      have g1 : r[b.toNat % m.length]? = some r[b.toNat % m.length] := List.getElem?_eq_getElem (by omega)
      have g2 : r[i % m.length]? = some r[i % m.length] := List.getElem?_eq_getElem (by omega)
      rw [g1, g2]
      exact (List.set_set_perm (by omega) (by omega)).trans hI
  · have hI : r.Perm m := hI
    have hrl : r.length = m.length := hI.length_eq
    have hrd : r.Pairwise fun a b => a.ticket ≠ b.ticket := (hI.pairwise_iff fun h => Ne.symm h).2 hd
    refine (o4 r (by omega) q (by rw [pushAll_perm hI (by omega) hd, hpq]) hq hrd now p4 p18 hv (by omega) hso (by omega)).mono fun n h again => ?_
    rw [hrl] at h
    simp only [L9_12, hsv, hso, hsl, hv, vI_mk, vB_mk, vS_mk, vL_mk, sVer_mk, sOff_mk, sLen_mk, oVer_mk, oEs_mk, cI_mk, cB_mk, cS_mk, cL_mk, cVer_mk, cOff_mk, cLen_mk, gI_zero, gI_succ, gB_zero, gB_succ, gS_zero, gS_succ, gL_zero, gL_succ, okI_zero, okI_succ, okB_zero, okB_succ, okS_zero, okS_succ, okL_zero, okL_succ, isIntT_int, isBoolT_bool, isStrT_str, isSlT_sl, intOf_int, boolOf_bool, strOf_str, slOf_sl, treeOf_t, srVer_sref, srOff_sref, srLen_sref, ver_row, esOf_row, cellOf_box, aI_mk, aB_mk, aS_mk, aL_mk, aggOf_agg, join_eq, List.getD_cons_zero, List.getD_cons_succ, decide_true, decide_false, cnd_true, cnd_false, true_and, and_true, false_and, and_false, Option.bind_some, Option.bind_none, List.length_cons, List.length_nil, List.length_map, List.getElem?_map, Option.map_some, Option.map_none, Int.toNat_natCast, reduceCtorEq, eq_self, if_true, if_false, Nat.zero_add, Nat.reduceAdd, Nat.reduceEqDiff, Int.natCast_nonneg, List.drop_zero, or_true, true_or, or_false, false_or, Bool.not_true, Bool.not_false, Bool.false_eq_true, decide_eq_true_eq, ge_iff_le, gt_iff_lt, Int.lt_irrefl]
    exact h
/-- The first pushing. -/
theorem o13 (m : List Entry) (hm : m.length ≤ 12) (hd : m.Pairwise fun a b => a.ticket ≠ b.ticket) (ord : List Int) (ho : ∀ b ∈ ord, 0 ≤ b ∧ b ≤ 255) (hol : ord.length ≤ 9223372036854775807) (now : Int) (p4 : List AV × Heap) (hsv : sVer p4 0 = m.length) (hso : sOff p4 0 = 0) (hsl : sLen p4 0 = m.length) :
    Ev fun n => loopIter (fun p again => L9_13 n p4 (ord.map encB) now p again) n ([.t (.sl 4 []), .t (tI 0)], [.row false m.length 4 (m.map Entry.enc)]) = some [.bool true] := by
  obtain ⟨s1, s2, s3⟩ := pushAll_spec m [] GoodQ.nil (by simp; omega) (by simpa using hd)
  refine loop_overQ (fun r => [Tree.bool r]) m (fun i (r : List Entry) => (([.t (.sl 4 (r.map Entry.enc)), .t (tI i)], [.row false m.length 4 (m.map Entry.enc)]) : List AV × Heap)) (fun i r x => .next (push1 r x)) (fun _ => true)
    (fun i r => r = (m.take i).foldl push1 [] ∧ r.length ≤ i) [] rfl ⟨rfl, by simp⟩ (runL_fold push1 (fun _ => true) 0 m [])
    (fun i r x hx hI => ?_) (fun i r x r' hx hI hr' => ?_) (fun r hI => ?_)
  · have hi := lt_of_some hx
    obtain ⟨h1, h2⟩ := hI
    refine (s17 r x (by omega)).mono fun n h again => ?_
    simp only [Entry.enc] at h
    simp only [L9_13, hsv, hso, hsl, vI_mk, vB_mk, vS_mk, vL_mk, sVer_mk, sOff_mk, sLen_mk, oVer_mk, oEs_mk, cI_mk, cB_mk, cS_mk, cL_mk, cVer_mk, cOff_mk, cLen_mk, gI_zero, gI_succ, gB_zero, gB_succ, gS_zero, gS_succ, gL_zero, gL_succ, okI_zero, okI_succ, okB_zero, okB_succ, okS_zero, okS_succ, okL_zero, okL_succ, isIntT_int, isBoolT_bool, isStrT_str, isSlT_sl, intOf_int, boolOf_bool, strOf_str, slOf_sl, treeOf_t, srVer_sref, srOff_sref, srLen_sref, ver_row, esOf_row, cellOf_box, aI_mk, aB_mk, aS_mk, aL_mk, aggOf_agg, join_eq, List.getD_cons_zero, List.getD_cons_succ, decide_true, decide_false, cnd_true, cnd_false, true_and, and_true, false_and, and_false, Option.bind_some, Option.bind_none, List.length_cons, List.length_nil, List.length_map, List.getElem?_map, Option.map_some, Option.map_none, Int.toNat_natCast, reduceCtorEq, eq_self, if_true, if_false, Nat.zero_add, Nat.reduceAdd, Nat.reduceEqDiff, Int.natCast_nonneg, List.drop_zero, or_true, true_or, or_false, false_or, Bool.not_true, Bool.not_false, Bool.false_eq_true, decide_eq_true_eq, ge_iff_le, gt_iff_lt, hx, Entry.enc, (show (i : Int) < m.length by omega), h, w64_succ (show i < 4611686018427387904 by omega), Rd.go_next, push1, beq_iff_eq]
    by_cases h0 : (pushQ r x).2 = 0 <;> simp [h0, cnd_eq]
  · have hi := lt_of_some hx
    obtain ⟨h1, h2⟩ := hI
    simp only [Rd.next.injEq] at hr'
    subst hr'
    have ht : m.take (i + 1) = m.take i ++ [x] := by rw [List.take_add_one, hx]; rfl
    have hg : GoodQ r := by
      rw [h1]
      exact (pushAll_spec (m.take i) [] GoodQ.nil (by simp; omega) (by simpa using hd.sublist (List.take_sublist _ _))).1
    refine ⟨by rw [ht, List.foldl_append, ← h1]; rfl, ?_⟩
    have := (push1_spec hg x).2.1
    omega
  · obtain ⟨h1, h2⟩ := hI
    rw [List.take_length] at h1
    have hg : GoodQ r := by rw [h1]; exact s1
    refine (o12 m hm hd r h1.symm hg ord ho hol now p4 ([.t (.sl 4 (r.map Entry.enc)), .t (tI m.length)], [.row false m.length 4 (m.map Entry.enc)]) rfl hsv hso hsl).mono fun n h again => ?_
    simp only [L9_13, hsv, hso, hsl, vI_mk, vB_mk, vS_mk, vL_mk, sVer_mk, sOff_mk, sLen_mk, oVer_mk, oEs_mk, cI_mk, cB_mk, cS_mk, cL_mk, cVer_mk, cOff_mk, cLen_mk, gI_zero, gI_succ, gB_zero, gB_succ, gS_zero, gS_succ, gL_zero, gL_succ, okI_zero, okI_succ, okB_zero, okB_succ, okS_zero, okS_succ, okL_zero, okL_succ, isIntT_int, isBoolT_bool, isStrT_str, isSlT_sl, intOf_int, boolOf_bool, strOf_str, slOf_sl, treeOf_t, srVer_sref, srOff_sref, srLen_sref, ver_row, esOf_row, cellOf_box, aI_mk, aB_mk, aS_mk, aL_mk, aggOf_agg, join_eq, List.getD_cons_zero, List.getD_cons_succ, decide_true, decide_false, cnd_true, cnd_false, true_and, and_true, false_and, and_false, Option.bind_some, Option.bind_none, List.length_cons, List.length_nil, List.length_map, List.getElem?_map, Option.map_some, Option.map_none, Int.toNat_natCast, reduceCtorEq, eq_self, if_true, if_false, Nat.zero_add, Nat.reduceAdd, Nat.reduceEqDiff, Int.natCast_nonneg, List.drop_zero, or_true, true_or, or_false, false_or, Bool.not_true, Bool.not_false, Bool.false_eq_true, decide_eq_true_eq, ge_iff_le, gt_iff_lt, Int.lt_irrefl]
    exact h
def dedup1 (m : List Entry) (x : Entry) : List Entry := if hasT m x.ticket = true then m else m ++ [x]
theorem law9 (l : List Entry) (ord : List Int) (ho : ∀ b ∈ ord, 0 ≤ b ∧ b ≤ 255) (hol : ord.length ≤ 9223372036854775807) (now : Int) : Runs C 9 [.sl 4 (l.map Entry.enc), .sl 1 (ord.map encB), tI now] [.bool true] := by
  refine Runs.of (fun n => e9 n _ _ _) ?_
  by_cases hl : l.length ≤ 12
  · simp only [vI_mk, vB_mk, vS_mk, vL_mk, sVer_mk, sOff_mk, sLen_mk, oVer_mk, oEs_mk, cI_mk, cB_mk, cS_mk, cL_mk, cVer_mk, cOff_mk, cLen_mk, gI_zero, gI_succ, gB_zero, gB_succ, gS_zero, gS_succ, gL_zero, gL_succ, okI_zero, okI_succ, okB_zero, okB_succ, okS_zero, okS_succ, okL_zero, okL_succ, isIntT_int, isBoolT_bool, isStrT_str, isSlT_sl, intOf_int, boolOf_bool, strOf_str, slOf_sl, treeOf_t, srVer_sref, srOff_sref, srLen_sref, ver_row, esOf_row, cellOf_box, aI_mk, aB_mk, aS_mk, aL_mk, aggOf_agg, join_eq, List.getD_cons_zero, List.getD_cons_succ, decide_true, decide_false, cnd_true, cnd_false, true_and, and_true, false_and, and_false, Option.bind_some, Option.bind_none, List.length_cons, List.length_nil, List.length_map, List.getElem?_map, Option.map_some, Option.map_none, Int.toNat_natCast, reduceCtorEq, eq_self, if_true, if_false, Nat.zero_add, Nat.reduceAdd, Nat.reduceEqDiff, Int.natCast_nonneg, List.drop_zero, or_true, true_or, or_false, false_or, Bool.not_true, Bool.not_false, Bool.false_eq_true, decide_eq_true_eq, ge_iff_le, gt_iff_lt, (show ¬ (12 : Int) < (l.length : Int) by omega)]
    refine loop_overQ (fun r => [Tree.bool r]) l (fun i (m : List Entry) => (([.sref 0 m.length 0 m.length, .t (tI i)], [.row false m.length 4 (m.map Entry.enc)]) : List AV × Heap)) (fun i m x => .next (dedup1 m x)) (fun _ => true)
      (fun i m => m.length ≤ i ∧ m.Pairwise fun a b => a.ticket ≠ b.ticket) [] rfl ⟨by simp, by simp⟩ (runL_fold dedup1 (fun _ => true) 0 l [])
      (fun i m x hx hI => ?_) (fun i m x m' hx hI hm' => ?_) (fun m hI => ?_)
    · have hi := lt_of_some hx
      obtain ⟨h1, h2⟩ := hI
      have k1 := loop_overZ (R := List Tree) (Z := List AV × Heap → Option (List Tree)) (B := fun n z p again => L9_1 n ([.sref 0 m.length 0 m.length, .t (tI i)], [.row false m.length 4 (m.map Entry.enc)]) z p again) (s := (([.t (tI 0)], [.row false m.length 4 (m.map Entry.enc), .box [.t (tI x.ticket), .t (tI x.prio), .t (tI x.exp), .t (tI x.size)]]) : List AV × Heap)) m
        (fun i (_ : Unit) => (([.t (tI i)], [.row false m.length 4 (m.map Entry.enc), .box [.t (tI x.ticket), .t (tI x.prio), .t (tI x.exp), .t (tI x.size)]]) : List AV × Heap))
        (fun i _ y => if decide (y.ticket = x.ticket) = true then .done (i : Int) else .next ()) (fun _ => -1) (fun z (q : Int) => z ([.t (tI q)], [.row false m.length 4 (m.map Entry.enc), .box [.t (tI x.ticket), .t (tI x.prio), .t (tI x.exp), .t (tI x.size)]])) (fun _ _ => True) () rfl trivial (find_run0 _ m)
        (fun i s y hy hI => Ev.of fun n z again => ?_) (fun _ _ _ _ _ _ _ => trivial) (fun s hI => Ev.of fun n z again => ?_)
      · refine k1.mono fun n h again => ?_
        have e1 : List.take m.length (m.map Entry.enc) = m.map Entry.enc := List.take_of_length_le (by simp)
        have hix := idx_nonneg (fun y : Entry => decide (y.ticket = x.ticket)) m
        simp only [L9_14, vI_mk, vB_mk, vS_mk, vL_mk, sVer_mk, sOff_mk, sLen_mk, oVer_mk, oEs_mk, cI_mk, cB_mk, cS_mk, cL_mk, cVer_mk, cOff_mk, cLen_mk, gI_zero, gI_succ, gB_zero, gB_succ, gS_zero, gS_succ, gL_zero, gL_succ, okI_zero, okI_succ, okB_zero, okB_succ, okS_zero, okS_succ, okL_zero, okL_succ, isIntT_int, isBoolT_bool, isStrT_str, isSlT_sl, intOf_int, boolOf_bool, strOf_str, slOf_sl, treeOf_t, srVer_sref, srOff_sref, srLen_sref, ver_row, esOf_row, cellOf_box, aI_mk, aB_mk, aS_mk, aL_mk, aggOf_agg, join_eq, List.getD_cons_zero, List.getD_cons_succ, decide_true, decide_false, cnd_true, cnd_false, true_and, and_true, false_and, and_false, Option.bind_some, Option.bind_none, List.length_cons, List.length_nil, List.length_map, List.getElem?_map, Option.map_some, Option.map_none, Int.toNat_natCast, reduceCtorEq, eq_self, if_true, if_false, Nat.zero_add, Nat.reduceAdd, Nat.reduceEqDiff, Int.natCast_nonneg, List.drop_zero, or_true, true_or, or_false, false_or, Bool.not_true, Bool.not_false, Bool.false_eq_true, decide_eq_true_eq, ge_iff_le, gt_iff_lt, hx, Entry.enc, (show (i : Int) < l.length by omega), h, J9_2, J9_3, Rd.go_next, dedup1]
        cases hh : hasT m x.ticket with
        | true =>
          have : 0 ≤ idx (fun y : Entry => decide (y.ticket = x.ticket)) m := hix.2 hh
          simp only [this, vI_mk, vB_mk, vS_mk, vL_mk, sVer_mk, sOff_mk, sLen_mk, oVer_mk, oEs_mk, cI_mk, cB_mk, cS_mk, cL_mk, cVer_mk, cOff_mk, cLen_mk, gI_zero, gI_succ, gB_zero, gB_succ, gS_zero, gS_succ, gL_zero, gL_succ, okI_zero, okI_succ, okB_zero, okB_succ, okS_zero, okS_succ, okL_zero, okL_succ, isIntT_int, isBoolT_bool, isStrT_str, isSlT_sl, intOf_int, boolOf_bool, strOf_str, slOf_sl, treeOf_t, srVer_sref, srOff_sref, srLen_sref, ver_row, esOf_row, cellOf_box, aI_mk, aB_mk, aS_mk, aL_mk, aggOf_agg, join_eq, List.getD_cons_zero, List.getD_cons_succ, decide_true, decide_false, cnd_true, cnd_false, true_and, and_true, false_and, and_false, Option.bind_some, Option.bind_none, List.length_cons, List.length_nil, List.length_map, List.getElem?_map, Option.map_some, Option.map_none, Int.toNat_natCast, reduceCtorEq, eq_self, if_true, if_false, Nat.zero_add, Nat.reduceAdd, Nat.reduceEqDiff, Int.natCast_nonneg, List.drop_zero, or_true, true_or, or_false, false_or, Bool.not_true, Bool.not_false, Bool.false_eq_true, decide_eq_true_eq, ge_iff_le, gt_iff_lt, w64_succ (show i < 4611686018427387904 by omega)]
        | false =>
          have : ¬ 0 ≤ idx (fun y : Entry => decide (y.ticket = x.ticket)) m := fun h => by
            have := hix.1 h
            rw [show m.any _ = hasT m x.ticket from rfl, hh] at this
            cases this
          simp only [this, vI_mk, vB_mk, vS_mk, vL_mk, sVer_mk, sOff_mk, sLen_mk, oVer_mk, oEs_mk, cI_mk, cB_mk, cS_mk, cL_mk, cVer_mk, cOff_mk, cLen_mk, gI_zero, gI_succ, gB_zero, gB_succ, gS_zero, gS_succ, gL_zero, gL_succ, okI_zero, okI_succ, okB_zero, okB_succ, okS_zero, okS_succ, okL_zero, okL_succ, isIntT_int, isBoolT_bool, isStrT_str, isSlT_sl, intOf_int, boolOf_bool, strOf_str, slOf_sl, treeOf_t, srVer_sref, srOff_sref, srLen_sref, ver_row, esOf_row, cellOf_box, aI_mk, aB_mk, aS_mk, aL_mk, aggOf_agg, join_eq, List.getD_cons_zero, List.getD_cons_succ, decide_true, decide_false, cnd_true, cnd_false, true_and, and_true, false_and, and_false, Option.bind_some, Option.bind_none, List.length_cons, List.length_nil, List.length_map, List.getElem?_map, Option.map_some, Option.map_none, Int.toNat_natCast, reduceCtorEq, eq_self, if_true, if_false, Nat.zero_add, Nat.reduceAdd, Nat.reduceEqDiff, Int.natCast_nonneg, List.drop_zero, or_true, true_or, or_false, false_or, Bool.not_true, Bool.not_false, Bool.false_eq_true, decide_eq_true_eq, ge_iff_le, gt_iff_lt, Nat.le_refl, (show m.length + 1 ≤ 1073741824 by omega), w64_succ (show i < 4611686018427387904 by omega), e1, List.length_append, List.map_append, List.map_cons, List.map_nil, Entry.enc]
      · have hi := lt_of_some hy
        simp only [L9_1, vI_mk, vB_mk, vS_mk, vL_mk, sVer_mk, sOff_mk, sLen_mk, oVer_mk, oEs_mk, cI_mk, cB_mk, cS_mk, cL_mk, cVer_mk, cOff_mk, cLen_mk, gI_zero, gI_succ, gB_zero, gB_succ, gS_zero, gS_succ, gL_zero, gL_succ, okI_zero, okI_succ, okB_zero, okB_succ, okS_zero, okS_succ, okL_zero, okL_succ, isIntT_int, isBoolT_bool, isStrT_str, isSlT_sl, intOf_int, boolOf_bool, strOf_str, slOf_sl, treeOf_t, srVer_sref, srOff_sref, srLen_sref, ver_row, esOf_row, cellOf_box, aI_mk, aB_mk, aS_mk, aL_mk, aggOf_agg, join_eq, List.getD_cons_zero, List.getD_cons_succ, decide_true, decide_false, cnd_true, cnd_false, true_and, and_true, false_and, and_false, Option.bind_some, Option.bind_none, List.length_cons, List.length_nil, List.length_map, List.getElem?_map, Option.map_some, Option.map_none, Int.toNat_natCast, reduceCtorEq, eq_self, if_true, if_false, Nat.zero_add, Nat.reduceAdd, Nat.reduceEqDiff, Int.natCast_nonneg, List.drop_zero, or_true, true_or, or_false, false_or, Bool.not_true, Bool.not_false, Bool.false_eq_true, decide_eq_true_eq, ge_iff_le, gt_iff_lt, hy, Entry.enc, (show (i : Int) < m.length by omega), w64_succ (show i < 4611686018427387904 by omega), beq_iff_eq]
        by_cases h : y.ticket = x.ticket <;> simp [h, cnd_eq, Rd.go_next, Rd.go_done]
      · simp only [L9_1, vI_mk, vB_mk, vS_mk, vL_mk, sVer_mk, sOff_mk, sLen_mk, oVer_mk, oEs_mk, cI_mk, cB_mk, cS_mk, cL_mk, cVer_mk, cOff_mk, cLen_mk, gI_zero, gI_succ, gB_zero, gB_succ, gS_zero, gS_succ, gL_zero, gL_succ, okI_zero, okI_succ, okB_zero, okB_succ, okS_zero, okS_succ, okL_zero, okL_succ, isIntT_int, isBoolT_bool, isStrT_str, isSlT_sl, intOf_int, boolOf_bool, strOf_str, slOf_sl, treeOf_t, srVer_sref, srOff_sref, srLen_sref, ver_row, esOf_row, cellOf_box, aI_mk, aB_mk, aS_mk, aL_mk, aggOf_agg, join_eq, List.getD_cons_zero, List.getD_cons_succ, decide_true, decide_false, cnd_true, cnd_false, true_and, and_true, false_and, and_false, Option.bind_some, Option.bind_none, List.length_cons, List.length_nil, List.length_map, List.getElem?_map, Option.map_some, Option.map_none, Int.toNat_natCast, reduceCtorEq, eq_self, if_true, if_false, Nat.zero_add, Nat.reduceAdd, Nat.reduceEqDiff, Int.natCast_nonneg, List.drop_zero, or_true, true_or, or_false, false_or, Bool.not_true, Bool.not_false, Bool.false_eq_true, decide_eq_true_eq, ge_iff_le, gt_iff_lt, Int.lt_irrefl]
    · obtain ⟨h1, h2⟩ := hI
      simp only [Rd.next.injEq] at hm'
      subst hm'
      unfold dedup1
      split
      · exact ⟨by omega, h2⟩
      · rename_i hh
        have hh' := (hasT_false m x.ticket).1 (by simpa using hh)
        refine ⟨by simp; omega, ?_⟩
        rw [List.pairwise_append]
        exact ⟨h2, by simp, fun a ha b hb => by simp at hb; subst hb; exact hh' a ha⟩
    · obtain ⟨h1, h2⟩ := hI
      refine (o13 m (by omega) h2 ord ho hol now ([.sref 0 m.length 0 m.length, .t (tI l.length)], [.row false m.length 4 (m.map Entry.enc)]) rfl rfl rfl).mono fun n h again => ?_
      simp only [L9_14, vI_mk, vB_mk, vS_mk, vL_mk, sVer_mk, sOff_mk, sLen_mk, oVer_mk, oEs_mk, cI_mk, cB_mk, cS_mk, cL_mk, cVer_mk, cOff_mk, cLen_mk, gI_zero, gI_succ, gB_zero, gB_succ, gS_zero, gS_succ, gL_zero, gL_succ, okI_zero, okI_succ, okB_zero, okB_succ, okS_zero, okS_succ, okL_zero, okL_succ, isIntT_int, isBoolT_bool, isStrT_str, isSlT_sl, intOf_int, boolOf_bool, strOf_str, slOf_sl, treeOf_t, srVer_sref, srOff_sref, srLen_sref, ver_row, esOf_row, cellOf_box, aI_mk, aB_mk, aS_mk, aL_mk, aggOf_agg, join_eq, List.getD_cons_zero, List.getD_cons_succ, decide_true, decide_false, cnd_true, cnd_false, true_and, and_true, false_and, and_false, Option.bind_some, Option.bind_none, List.length_cons, List.length_nil, List.length_map, List.getElem?_map, Option.map_some, Option.map_none, Int.toNat_natCast, reduceCtorEq, eq_self, if_true, if_false, Nat.zero_add, Nat.reduceAdd, Nat.reduceEqDiff, Int.natCast_nonneg, List.drop_zero, or_true, true_or, or_false, false_or, Bool.not_true, Bool.not_false, Bool.false_eq_true, decide_eq_true_eq, ge_iff_le, gt_iff_lt, Int.lt_irrefl]
      exact h
  · refine s12.mono fun n h => ?_
    simp only [vI_mk, vB_mk, vS_mk, vL_mk, sVer_mk, sOff_mk, sLen_mk, oVer_mk, oEs_mk, cI_mk, cB_mk, cS_mk, cL_mk, cVer_mk, cOff_mk, cLen_mk, gI_zero, gI_succ, gB_zero, gB_succ, gS_zero, gS_succ, gL_zero, gL_succ, okI_zero, okI_succ, okB_zero, okB_succ, okS_zero, okS_succ, okL_zero, okL_succ, isIntT_int, isBoolT_bool, isStrT_str, isSlT_sl, intOf_int, boolOf_bool, strOf_str, slOf_sl, treeOf_t, srVer_sref, srOff_sref, srLen_sref, ver_row, esOf_row, cellOf_box, aI_mk, aB_mk, aS_mk, aL_mk, aggOf_agg, join_eq, List.getD_cons_zero, List.getD_cons_succ, decide_true, decide_false, cnd_true, cnd_false, true_and, and_true, false_and, and_false, Option.bind_some, Option.bind_none, List.length_cons, List.length_nil, List.length_map, List.getElem?_map, Option.map_some, Option.map_none, Int.toNat_natCast, reduceCtorEq, eq_self, if_true, if_false, Nat.zero_add, Nat.reduceAdd, Nat.reduceEqDiff, Int.natCast_nonneg, List.drop_zero, or_true, true_or, or_false, false_or, Bool.not_true, Bool.not_false, Bool.false_eq_true, decide_eq_true_eq, ge_iff_le, gt_iff_lt, (show (12 : Int) < (l.length : Int) by omega), h]
end Ab
