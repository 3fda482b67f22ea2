/- Parts of the proof: see the last text. -/
import Derived.Test.YtblkfmemhpjbgaaQuA
set_option linter.unusedVariables false
set_option linter.unusedSimpArgs false
namespace Ab
open Go


theorem idx_cases {α : Type} (p : α → Bool) (l : List α) : (idx p l = -1 ∧ ∀ x ∈ l, p x = false) ∨ ∃ (i : Nat) (x : α), idx p l = (i : Int) ∧ l[i]? = some x ∧ p x = true ∧ ∀ (j : Nat) y, j < i → l[j]? = some y → p y = false := by
  unfold idx
  cases h : l.findIdx? p with
  | none =>
    rw [List.findIdx?_eq_none_iff] at h
    exact .inl ⟨rfl, fun x hx => by simpa using h x hx⟩
  | some j =>
    rw [List.findIdx?_eq_some_iff_getElem] at h
    obtain ⟨h1, h2, h3⟩ := h
    refine .inr ⟨j, l[j], rfl, List.getElem?_eq_getElem h1, h2, fun k y hk hy => ?_⟩
    have hkl := lt_of_some hy
    rw [List.getElem?_eq_getElem hkl] at hy
    cases hy
    simpa using h3 k hk

theorem ahead_irr (a : Entry) : ahead a a = false := by unfold ahead; simp
theorem ahead_tr {a b c : Entry} (h1 : ahead a b = true) (h2 : ahead b c = true) : ahead a c = true := by
  unfold ahead at *
  simp only [decide_eq_true_eq] at *
  omega
theorem ahead_tri {a b : Entry} (h : a.ticket ≠ b.ticket) : ahead a b = true ∨ ahead b a = true := by
  unfold ahead
  simp only [decide_eq_true_eq]
  omega
theorem ahead_asym {a b : Entry} (h : ahead a b = true) : ahead b a = false := by
  cases h2 : ahead b a with
  | false => rfl
  | true => have := ahead_tr h h2; rw [ahead_irr] at this; cases this

structure GoodQ (l : List Entry) : Prop where
  len : l.length ≤ 64
  val : ∀ x ∈ l, ValidE x
  dis : l.Pairwise fun a b => a.ticket ≠ b.ticket
  srt : l.Pairwise fun a b => ahead a b = true
theorem hasT_iff (l : List Entry) (t : Int) : hasT l t = true ↔ ∃ x ∈ l, x.ticket = t := by
  unfold hasT
  rw [List.any_eq_true]
  simp only [decide_eq_true_eq]
theorem hasT_false (l : List Entry) (t : Int) : hasT l t = false ↔ ∀ x ∈ l, x.ticket ≠ t := by
  rw [Bool.eq_false_iff, ne_eq, hasT_iff]
  simp
theorem pairwise_adj {α : Type} {R : α → α → Prop} (tr : ∀ a b c, R a b → R b c → R a c) : ∀ (l : List α), (∀ (j : Nat) a b, l[j]? = some a → l[j + 1]? = some b → R a b) → l.Pairwise R
  | [], _ => .nil
  | [a], _ => by simp
  | a :: b :: l, h => by
    have ih := pairwise_adj tr (b :: l) fun j x y hx hy => h (j + 1) x y (by simpa using hx) (by simpa using hy)
    have hab := h 0 a b rfl rfl
    rw [List.pairwise_cons]
    refine ⟨fun y hy => ?_, ih⟩
    rcases List.mem_cons.1 hy with rfl | hy
    · exact hab
    · exact tr _ _ _ hab ((List.pairwise_cons.1 ih).1 y hy)
theorem run_zero {l : List Entry} : ∀ (k i : Nat), i + k = l.length → (runL (chkStep l) (fun _ => (0 : Int)) i (l.drop i) () = 0 ↔ ∀ j x, i ≤ j → l[j]? = some x → chkStep l j () x = .next ())
  | 0, i, h => by
    have : l.drop i = [] := List.drop_eq_nil_of_le (by omega)
    rw [this]
    simp only [runL, true_iff]
    intro j x hj hx
    have := lt_of_some hx
    omega
  | k + 1, i, h => by
    have hi : i < l.length := by omega
    rw [List.drop_eq_getElem_cons hi]
    have ih := run_zero (l := l) k (i + 1) (by omega)
    have hx : l[i]? = some l[i] := List.getElem?_eq_getElem hi
    cases hs : chkStep l i () l[i] with
    | next s =>
      simp only [runL, hs]
      rw [ih]
      constructor
      · intro h j x hj hjx
        rcases Nat.eq_or_lt_of_le hj with rfl | hj
        · rw [hx] at hjx; cases hjx; exact hs
        · exact h j x hj hjx
      · intro h j x hj hjx
        exact h j x (by omega) hjx
    | done r =>
      simp only [runL, hs]
      have hr : r ≠ 0 := by
        unfold chkStep at hs
        split at hs
        · cases hs; decide
        · split at hs
          · cases hs; decide
          · split at hs
            · cases hs; decide
            · cases hs
      constructor
      · intro h; exact absurd h hr
      · intro h
        rw [h i _ (Nat.le_refl _) hx] at hs
        cases hs
theorem checkQ_zero (l : List Entry) : checkQ l = 0 ↔ GoodQ l := by
  unfold checkQ
  by_cases hl : 64 < l.length
  · rw [if_pos hl]
    constructor
    · intro h; cases h
    · intro h; have := h.len; omega
  · rw [if_neg hl]
    have key := run_zero (l := l) l.length 0 (by omega)
    rw [List.drop_zero] at key
    rw [key]
    constructor
    · intro h
      have hst : ∀ j x, l[j]? = some x → ValidE x ∧ hasT (l.take j) x.ticket = false ∧ (j ≠ 0 → ∃ y, l[j - 1]? = some y ∧ ahead y x = true) := by
        intro j x hx
        have hs := h j x (by omega) hx
        unfold chkStep at hs
        split at hs
        · cases hs
        · rename_i hv
          split at hs
          · cases hs
          · rename_i hh
            split at hs
            · cases hs
            · rename_i ha
              refine ⟨Classical.not_not.1 hv, by simpa using hh, fun hj => ?_⟩
              have hjl := lt_of_some hx
              have hp : l[j - 1]? = some l[j - 1] := List.getElem?_eq_getElem (by omega)
              refine ⟨_, hp, ?_⟩
              cases hah : ahead l[j - 1] x with
              | true => rfl
              | false => exact absurd ⟨hj, by rw [hp, Option.map_some, hah]⟩ ha
      refine ⟨by omega, fun x hx => ?_, ?_, ?_⟩
      · obtain ⟨j, hj⟩ := List.mem_iff_getElem?.1 hx
        exact (hst j x hj).1
      · rw [List.pairwise_iff_getElem]
        intro i j hi hj hij
        have := (hasT_false _ _).1 (hst j l[j] (List.getElem?_eq_getElem hj)).2.1 l[i] (List.mem_iff_getElem?.2 ⟨i, by rw [List.getElem?_take_of_lt hij]; exact List.getElem?_eq_getElem hi⟩)
        exact this
      · refine pairwise_adj (R := fun a b => ahead a b = true) (fun _ _ _ => ahead_tr) l fun j a b ha hb => ?_
        obtain ⟨y, hy, hyb⟩ := (hst (j + 1) b hb).2.2 (by omega)
        rw [Nat.add_sub_cancel, ha] at hy
        cases hy
        exact hyb
    · intro hg j x _ hx
      have hj := lt_of_some hx
      unfold chkStep
      rw [if_neg (not_not_intro (hg.val x (List.mem_of_getElem? hx)))]
      have hh : hasT (l.take j) x.ticket = false := by
        rw [hasT_false]
        intro y hy
        obtain ⟨i, hi⟩ := List.mem_iff_getElem?.1 hy
        have hij : i < j := by have := lt_of_some hi; simp at this; omega
        rw [List.getElem?_take_of_lt hij] at hi
        have := List.pairwise_iff_getElem.1 hg.dis i j (lt_of_some hi) hj hij
        rw [List.getElem?_eq_getElem (lt_of_some hi)] at hi
        rw [List.getElem?_eq_getElem hj] at hx
        rw [← Option.some.inj hi, ← Option.some.inj hx]
        exact this
      rw [hh]
      simp only [Bool.false_eq_true, if_false]
      rw [if_neg]
      rintro ⟨hj0, hm⟩
      have hp : l[j - 1]? = some l[j - 1] := List.getElem?_eq_getElem (by omega)
      rw [hp, Option.map_some] at hm
      have := List.pairwise_iff_getElem.1 hg.srt (j - 1) j (by omega) hj (by omega)
      rw [List.getElem?_eq_getElem hj] at hx
      cases hx
      rw [this] at hm
      cases hm

/-! ### insert -/
def insQ (x : Entry) (l : List Entry) : List Entry := insB (fun y => !ahead y x) x l
theorem insQ_tw (x : Entry) (l : List Entry) : insQ x l = l.takeWhile (fun y => ahead y x) ++ x :: l.dropWhile (fun y => ahead y x) := by
  unfold insQ
  rw [insB_tw]
  simp
theorem tw_all {α : Type} {p : α → Bool} : ∀ {l : List α}, (∀ y ∈ l, p y = true) → l.takeWhile p = l
  | [], _ => rfl
  | x :: l, h => by simp [h x (by simp), tw_all (l := l) fun y hy => h y (by simp [hy])]
theorem dw_all {α : Type} {p : α → Bool} : ∀ {l : List α}, (∀ y ∈ l, p y = true) → l.dropWhile p = []
  | [], _ => rfl
  | x :: l, h => by simp [h x (by simp), dw_all (l := l) fun y hy => h y (by simp [hy])]
def insStep41 (l : List Entry) (x : Entry) (i : Nat) (_ : Unit) (y : Entry) : Rd Unit (List Entry) := if ahead y x = true then .next () else .done (l.take i ++ x :: l.drop i)
theorem ins_run (l : List Entry) (x : Entry) : ∀ (k i : Nat), i + k = l.length → (∀ y ∈ l.take i, ahead y x = true) → runL (insStep41 l x) (fun _ => l ++ [x]) i (l.drop i) () = insQ x l
  | 0, i, h, ha => by
    have hd : l.drop i = [] := List.drop_eq_nil_of_le (by omega)
    have hall : ∀ y ∈ l, ahead y x = true := by rwa [List.take_of_length_le (by omega)] at ha
    rw [hd, insQ_tw]
    simp only [runL]
    have e1 : l.takeWhile (fun y => ahead y x) = l := tw_all hall
    have e2 : l.dropWhile (fun y => ahead y x) = [] := dw_all hall
    rw [e1, e2]
  | k + 1, i, h, ha => by
    have hi : i < l.length := by omega
    rw [List.drop_eq_getElem_cons hi]
    unfold insStep41
    simp only [runL]
    by_cases hx : ahead l[i] x = true
    · rw [if_pos hx]
      refine ins_run l x k (i + 1) (by omega) fun y hy => ?_
      rw [List.take_succ_eq_append_getElem hi, List.mem_append, List.mem_singleton] at hy
      rcases hy with hy | rfl
      · exact ha y hy
      · exact hx
    · rw [if_neg hx, insQ_tw]
      have e1 : l.takeWhile (fun y => ahead y x) = l.take i := by
        conv => lhs; rw [← List.take_append_drop i l]
        rw [List.takeWhile_append_of_pos ha, List.drop_eq_getElem_cons hi]
        simp only [List.takeWhile_cons, hx, if_false, List.append_nil, Bool.false_eq_true]
      have e2 : l.dropWhile (fun y => ahead y x) = l.drop i := by
        conv => lhs; rw [← List.take_append_drop i l]
        rw [List.dropWhile_append_of_pos ha, List.drop_eq_getElem_cons hi]
        simp only [List.dropWhile_cons, hx, if_false]
        rfl
      rw [e1, e2]
theorem s41 (l : List Entry) (x : Entry) (hl : l.length ≤ 1000000) : Runs C 41 (.sl 4 (l.map Entry.enc) :: x.enc) [.sl 4 ((insQ x l).map Entry.enc)] := by
  refine Runs.of (fun n => e41 n _ _ _ _ _) ?_
  refine loop_overQ (fun (r : List Entry) => [Tree.sl 4 (r.map Entry.enc)]) l (fun i (_ : Unit) => (([.sref 0 i 0 i, .t (tI i)], [.row false i 4 ((l.take i).map Entry.enc)]) : List AV × Heap)) (insStep41 l x) (fun _ => l ++ [x]) (fun _ _ => True) () rfl trivial (by have := ins_run l x l.length 0 (by omega) (by simp); rwa [List.drop_zero] at this)
    (fun i s y hy hI => ?_) (fun _ _ _ _ _ _ _ => trivial) (fun s hI => Ev.of fun n again => ?_)
  · have hi := lt_of_some hy
    have hlt : (l.take i).length = i := by simp; omega
    have e1 : List.take i ((l.take i).map Entry.enc) = (l.take i).map Entry.enc := List.take_of_length_le (by simp; omega)
    have e2 : List.take l.length (l.map Entry.enc) = l.map Entry.enc := List.take_of_length_le (by simp)
    have ht : l.take (i + 1) = l.take i ++ [y] := by rw [List.take_add_one, hy]; rfl
    have hdr : (l.drop i).length = l.length - i := by simp
    have hd0 : ¬ ((l.drop i).length = 0) := by omega
    refine (s53 y x).mono fun n h again => ?_
    simp only [Entry.enc, List.cons_append, List.nil_append] at h
    simp only [L41_2, J41_1, vv, reduceCtorEq, Nat.reduceAdd, Nat.reduceEqDiff, hy, Entry.enc, (show (i : Int) < l.length by omega), h, hlt, Nat.le_refl, (show i + 1 ≤ 1073741824 by omega), (show (i : Int) ≤ l.length by omega), e1, e2, w64_succ (show i < 4611686018427387904 by omega), ht, List.map_append, List.map_cons, List.map_nil]
    unfold insStep41
    cases hah : ahead y x with
    | true => simp only [vv, reduceCtorEq, Nat.reduceAdd, Nat.reduceEqDiff, Rd.go_next]
    | false =>
      have e3 : (List.drop i (l.map Entry.enc)).length = l.length - i := by simp
      have e4 : List.take (i + 1) (List.map Entry.enc (l.take i) ++ [[tI x.ticket, tI x.prio, tI x.exp, tI x.size]]) = List.map Entry.enc (l.take i) ++ [[tI x.ticket, tI x.prio, tI x.exp, tI x.size]] := List.take_of_length_le (by simp; omega)
      have e5 : List.take (i + 1 + (l.length - i)) (List.map Entry.enc (l.take i) ++ [[tI x.ticket, tI x.prio, tI x.exp, tI x.size]] ++ List.drop i (l.map Entry.enc)) = List.map Entry.enc (l.take i) ++ [[tI x.ticket, tI x.prio, tI x.exp, tI x.size]] ++ List.drop i (l.map Entry.enc) := List.take_of_length_le (by simp; omega)
      simp only [vv, reduceCtorEq, Nat.reduceAdd, Nat.reduceEqDiff, e3, (show ¬ (l.length - i = 0) by omega), List.length_append, hlt, Nat.le_refl, (show i + 1 + (l.length - i) ≤ 1073741824 by omega), e4, e5, Rd.go_done]
      simp [Entry.enc]
  · have e1 : List.take l.length (l.map Entry.enc) = l.map Entry.enc := List.take_of_length_le (by simp)
    have e3 : (List.drop l.length (l.map Entry.enc)).length = 0 := by simp
    have e4 : List.take (l.length + 1) (List.map Entry.enc l ++ [[tI x.ticket, tI x.prio, tI x.exp, tI x.size]]) = List.map Entry.enc l ++ [[tI x.ticket, tI x.prio, tI x.exp, tI x.size]] := List.take_of_length_le (by simp)
    simp only [L41_2, J41_1, vv, reduceCtorEq, Nat.reduceAdd, Nat.reduceEqDiff, List.take_length, Int.lt_irrefl, Nat.le_refl, (show l.length + 1 ≤ 1073741824 by omega), (show (l.length : Int) ≤ l.length by omega), e1, e3, List.length_append, Nat.lt_irrefl, (show l.length + 1 + 0 ≤ 1073741824 by omega), Nat.add_zero, e4]
    have e5 : List.drop l.length (l.map Entry.enc) = [] := List.drop_eq_nil_of_le (by simp)
    rw [e5, List.append_nil, e4]
    simp [Entry.enc]

/-! ### fresh, Remove of the reference -/
def freshQ (l : List Entry) (now : Int) : List Entry := l.filter fun x => decide (x.exp > now)
def removeQ (l : List Entry) (t : Int) : List Entry := l.filter fun x => decide (x.ticket ≠ t)
def flt (p : Entry → Bool) (s : Nat × List Entry) (x : Entry) : Nat × List Entry := if p x = true then (s.1 + 1, s.2 ++ [x]) else s
theorem flt_fold (p : Entry → Bool) : ∀ (l : List Entry) (s : Nat × List Entry), (l.foldl (flt p) s).2 = s.2 ++ l.filter p
  | [], s => by simp
  | x :: l, s => by
    rw [List.foldl_cons, flt_fold p l]
    unfold flt
    cases h : p x <;> simp [h]
theorem s42 (l : List Entry) (t : Int) (hl : l.length ≤ 1000000) : Runs C 42 [.sl 4 (l.map Entry.enc), tI t] [.sl 4 ((freshQ l t).map Entry.enc)] := by
  refine Runs.of (fun n => e42 n _ _) ?_
  have hf := flt_fold (fun x => decide (x.exp > t)) l (0, [])
  simp only [List.nil_append] at hf
  unfold freshQ
  rw [← hf]
  refine loop_overQ (fun (r : List Entry) => [Tree.sl 4 (r.map Entry.enc)]) l (fun i (s : Nat × List Entry) => (([.sref 0 s.1 0 s.2.length, .t (tI i)], [.row false s.1 4 (s.2.map Entry.enc)]) : List AV × Heap)) (fun _ s x => .next (flt (fun x => decide (x.exp > t)) s x)) (fun s => s.2) (fun i s => s.2.length ≤ i) (0, []) rfl (by simp) (runL_fold _ _ 0 l (0, []))
    (fun i s x hx hI => Ev.of fun n again => ?_) (fun i s x s' hx hI hs' => ?_) (fun s hI => Ev.of fun n again => ?_)
  · have hi := lt_of_some hx
    have e1 : List.take s.2.length (s.2.map Entry.enc) = s.2.map Entry.enc := List.take_of_length_le (by simp)
    simp only [L42_1, vv, reduceCtorEq, Nat.reduceAdd, Nat.reduceEqDiff, hx, Entry.enc, (show (i : Int) < l.length by omega), Nat.le_refl, (show s.2.length + 1 ≤ 1073741824 by omega), e1, w64_succ (show i < 4611686018427387904 by omega), Rd.go_next]
    by_cases h : t < x.exp
    · simp [h, flt, cnd_eq, Entry.enc]
    · simp [h, flt, cnd_eq]
  · simp only [Rd.next.injEq] at hs'
    subst hs'
    have hI' : s.2.length ≤ i := hI
    unfold flt
    split
    · simp; omega
    · omega
  · have e1 : List.take s.2.length (s.2.map Entry.enc) = s.2.map Entry.enc := List.take_of_length_le (by simp)
    simp only [L42_1, vv, reduceCtorEq, Nat.reduceAdd, Nat.reduceEqDiff, Int.lt_irrefl, e1]
theorem s30 (l : List Entry) (t : Int) (hl : l.length ≤ 1000000) : Runs C 30 [.sl 4 (l.map Entry.enc), tI t] [.sl 4 ((removeQ l t).map Entry.enc)] := by
  refine Runs.of (fun n => e30 n _ _) ?_
  have hf := flt_fold (fun x => decide (x.ticket ≠ t)) l (0, [])
  simp only [List.nil_append] at hf
  unfold removeQ
  rw [← hf]
  refine loop_overQ (fun (r : List Entry) => [Tree.sl 4 (r.map Entry.enc)]) l (fun i (s : Nat × List Entry) => (([.sref 0 s.1 0 s.2.length, .t (tI i)], [.row false s.1 4 (s.2.map Entry.enc)]) : List AV × Heap)) (fun _ s x => .next (flt (fun x => decide (x.ticket ≠ t)) s x)) (fun s => s.2) (fun i s => s.2.length ≤ i) (0, []) rfl (by simp) (runL_fold _ _ 0 l (0, []))
    (fun i s x hx hI => Ev.of fun n again => ?_) (fun i s x s' hx hI hs' => ?_) (fun s hI => Ev.of fun n again => ?_)
  · have hi := lt_of_some hx
    have e1 : List.take s.2.length (s.2.map Entry.enc) = s.2.map Entry.enc := List.take_of_length_le (by simp)
    simp only [L30_1, vv, reduceCtorEq, Nat.reduceAdd, Nat.reduceEqDiff, hx, Entry.enc, (show (i : Int) < l.length by omega), Nat.le_refl, (show s.2.length + 1 ≤ 1073741824 by omega), e1, w64_succ (show i < 4611686018427387904 by omega), Rd.go_next, bne_iff_ne]
    by_cases h : x.ticket = t
    · simp [h, flt, cnd_eq]
    · simp [h, flt, cnd_eq, Entry.enc]
  · simp only [Rd.next.injEq] at hs'
    subst hs'
    have hI' : s.2.length ≤ i := hI
    unfold flt
    split
    · simp; omega
    · omega
  · have e1 : List.take s.2.length (s.2.map Entry.enc) = s.2.map Entry.enc := List.take_of_length_le (by simp)
    simp only [L30_1, vv, reduceCtorEq, Nat.reduceAdd, Nat.reduceEqDiff, Int.lt_irrefl, e1]
end Ab

set_option linter.unusedVariables false
set_option linter.unusedSimpArgs false
namespace Ab
open Go


/-! ### Push -/
def pushQ (l : List Entry) (x : Entry) : List Entry × Int := if checkQ l ≠ 0 then ([], 1) else if ¬ ValidE x then ([], 2) else if hasT l x.ticket = true then ([], 6) else if l.length = 64 then ([], 4) else (insQ x l, 0)
theorem down_ahead {l : List Entry} (h : l.Pairwise fun a b => ahead a b = true) (x : Entry) : Down (fun y => ahead y x) l := by
  intro i j a b hij ha hb hlt
  rcases Nat.lt_or_ge i j with hl | hl
  · have h1 := lt_of_some ha
    have h2 := lt_of_some hb
    have := List.pairwise_iff_getElem.1 h i j h1 h2 hl
    rw [List.getElem?_eq_getElem h1] at ha
    rw [List.getElem?_eq_getElem h2] at hb
    cases ha; cases hb
    exact ahead_tr this hlt
  · obtain rfl : i = j := by omega
    rw [ha] at hb
    cases hb
    exact hlt
theorem insQ_count {l : List Entry} (h : l.Pairwise fun a b => ahead a b = true) (x : Entry) : insQ x l = l.take (l.countP fun y => ahead y x) ++ x :: l.drop (l.countP fun y => ahead y x) := by
  obtain ⟨h1, h2⟩ := countP_down (down_ahead h x)
  rw [insQ_tw, h1, h2]
theorem s21 (l : List Entry) (x : Entry) (hl : l.length ≤ 1000000) : Runs C 21 (.sl 4 (l.map Entry.enc) :: x.enc) [.sl 4 ((pushQ l x).1.map Entry.enc), tI (pushQ l x).2] := by
  refine Runs.of (fun n => e21 n _ _ _ _ _) ?_
  refine ((s27 l hl).and ((s49 x).and ((s50 l x.ticket hl).and (s41 l x hl)))).mono fun n h => ?_
  obtain ⟨h1, h2, h3, h4⟩ := h
  rw [Entry.enc] at h2 h4
  unfold pushQ
  simp only [h1, h2, h3, h4, vv, reduceCtorEq, Nat.reduceAdd, Nat.reduceEqDiff]
  by_cases c1 : checkQ l = 0
  · by_cases c2 : ValidE x
    · cases c3 : hasT l x.ticket with
      | true => simp [c1, c2, c3, cnd_eq]
      | false =>
        by_cases c4 : l.length = 64
        · simp [c1, c2, c3, c4, cnd_eq]
        · have : ((l.length : Int) == 64) = false := by simp; omega
          simp [c1, c2, c3, c4, cnd_eq, this]
    · simp [c1, c2, cnd_eq]
  · have : (checkQ l != 0) = true := by simp [c1]
    simp [c1, cnd_eq]
theorem s17 (l : List Entry) (x : Entry) (hl : l.length ≤ 1000000) : Runs C 17 (.sl 4 (l.map Entry.enc) :: x.enc) [.sl 4 ((pushQ l x).1.map Entry.enc), tI (pushQ l x).2] := by
  refine Runs.of (fun n => e17 n _ _ _ _ _) ?_
  unfold pushQ
  by_cases c1 : checkQ l = 0
  · have hg := (checkQ_zero l).1 c1
    have hlen := hg.len
    by_cases c2 : ValidE x
    · cases c3 : hasT l x.ticket with
      | true =>
        refine ((s26 l hl).and ((s43 x).and (s44 l x.ticket hl))).mono fun n h => ?_
        obtain ⟨h1, h2, h3⟩ := h
        rw [Entry.enc] at h2
        simp [h1, h2, h3, c1, c2, c3, cnd_eq, okI, okB, gI, gB, isIntT, isBoolT, intOf, boolOf]
      | false =>
        refine Ev.rw (T' := ?TT) ((s26 l hl).and ((s43 x).and (s44 l x.ticket hl))) (fun k h => ?g1) ?g2
        case g1 =>
          obtain ⟨h1, h2, h3⟩ := h
          simp only [Entry.enc] at h2
          simp only [h1, h2, h3, c1, c2, c3, vv, reduceCtorEq, Nat.reduceAdd, Nat.reduceEqDiff, bne_self_eq_false]
          rfl
        case g2 =>
          by_cases c4 : l.length = 64
          · refine Ev.of fun n => ?_
            simp [c1, c2, c4, cnd_eq]
          · have c4' : ((l.length : Int) == 64) = false := by simp; omega
            simp only [c4', vv, reduceCtorEq, Nat.reduceAdd, Nat.reduceEqDiff, c1, c2, c4, ne_eq, not_true]
            have key := bs_overZ (R := List Tree) (Z := List AV × Heap → Option (List Tree)) (B := fun n z p again => L17_1 n (l.map Entry.enc) x.ticket x.prio x.exp x.size z p again)
                (fun z (k : Nat) => z ([.t (tI k), .t (.bool (if k < l.length then ((l[k]?.map fun y => cmpE y x) == some 0) else false))], [])) (fun y => ahead y x) l id (fun s => (([.t (tI s.1), .t (tI s.2)], []) : List AV × Heap)) (down_ahead hg.srt x) rfl
                (fun s a1 a2 a3 => by
                  obtain ⟨a, b⟩ := s
                  simp only at a1 a2 a3
                  by_cases hab : a < b
                  · have hm : l[(a + b) / 2]? = some l[(a + b) / 2] := List.getElem?_eq_getElem (by omega)
                    refine (s46 l[(a + b) / 2] x).mono fun n h z again => ?_
                    simp only [Entry.enc, List.cons_append, List.nil_append] at h
                    simp only [L17_1, vv, reduceCtorEq, Nat.reduceAdd, Nat.reduceEqDiff, halfU a b (by omega), hm, Entry.enc, (show (a : Int) < (b : Int) by omega), bsStep, if_pos hab, w64_succ (show (a + b) / 2 < 4611686018427387904 by omega), h, cmpE_neg]
                    cases hx : ahead l[(a + b) / 2] x <;> simp [cnd_eq, Rd.go_next]
                  · obtain rfl : a = b := by omega
                    by_cases hal : a < l.length
                    · have hm : l[a]? = some l[a] := List.getElem?_eq_getElem hal
                      refine (s46 l[a] x).mono fun n h z again => ?_
                      simp only [Entry.enc, List.cons_append, List.nil_append] at h
                      simp only [L17_1, vv, reduceCtorEq, Nat.reduceAdd, Nat.reduceEqDiff, Int.lt_irrefl, hm, Entry.enc, (show (a : Int) < (l.length : Int) by omega), bsStep, Nat.lt_irrefl, h, Rd.go_done, id, hal]
                      congr 5
                    · refine Ev.of fun n z again => ?_
                      simp only [L17_1, vv, reduceCtorEq, Nat.reduceAdd, Nat.reduceEqDiff, Int.lt_irrefl, (show ¬ (a : Int) < (l.length : Int) by omega), bsStep, Nat.lt_irrefl, Rd.go_done, id, hal])
            refine ((s1000048 (l.map Entry.enc) (by simp; omega)).and key).mono fun n h => ?_
            obtain ⟨h1, h2⟩ := h
            simp only [id, Int.natCast_zero] at h2
            have hk : l.countP (fun y => ahead y x) ≤ l.length := List.countP_le_length
            simp only [join_eq, h2, id, J17_2, h1, vv, reduceCtorEq, Nat.reduceAdd, Nat.reduceEqDiff, (show l.length + 1 ≤ 1073741824 by omega), (show ((l.countP fun y => ahead y x : Nat) : Int) ≤ (l.length : Int) by omega), insQ_count hg.srt x]
            have e1 : List.take (l.length + 1) (List.take (l.countP fun y => ahead y x) (l.map Entry.enc) ++ [[tI x.ticket, tI x.prio, tI x.exp, tI x.size]] ++ List.drop (l.countP fun y => ahead y x) (l.map Entry.enc)) = List.take (l.countP fun y => ahead y x) (l.map Entry.enc) ++ [[tI x.ticket, tI x.prio, tI x.exp, tI x.size]] ++ List.drop (l.countP fun y => ahead y x) (l.map Entry.enc) := List.take_of_length_le (by simp; omega)
            rw [e1]
            simp [Entry.enc]
    · refine ((s26 l hl).and (s43 x)).mono fun n h => ?_
      obtain ⟨h1, h2⟩ := h
      rw [Entry.enc] at h2
      simp [h1, h2, c1, c2, cnd_eq, okI, okB, gI, gB, isIntT, isBoolT, intOf, boolOf]
  · refine (s26 l hl).mono fun n h1 => ?_
    simp only [h1, vv, reduceCtorEq, Nat.reduceAdd, Nat.reduceEqDiff]
    simp [c1, cnd_eq]

/-! ### deletions -/
/-- The search ahead of a deletion. -/
theorem rowTail {es : List Entry} {i : Nat} {L : Nat} (h : es.length = L) (hi : i ≤ L) : List.take i (rowSet (es.map Entry.enc) i (List.replicate (L - i) [tI 0, tI 0, tI 0, tI 0])) = (es.take i).map Entry.enc := by
  rw [rowSet_keep _ _ _ _ (Nat.le_refl i) (by simp; omega), List.map_take]
theorem rowLen {es : List Entry} {i : Nat} {L : Nat} (h : es.length = L) (hi : i ≤ L) : (rowSet (es.map Entry.enc) i (List.replicate (L - i) [tI 0, tI 0, tI 0, tI 0])).length = L := by
  rw [rowSet_len _ _ _ (by simp; omega)]; simp [h]
theorem s29 (l : List Entry) (t : Int) (hl : l.length ≤ 1000000) : Runs C 29 [.sl 4 (l.map Entry.enc), tI t] [.sl 4 ((removeQ l t).map Entry.enc)] := by
  refine Runs.of (fun n => e29 n _ _) ?_
  have k1 := loop_overZ (R := List Tree) (Z := List AV × Heap → Option (List Tree)) (B := fun n z p again => L29_1 n [.sl 4 (l.map Entry.enc)] t z p again) (s := (([.t (tI 0)], [.row false 0 4 (l.map Entry.enc)]) : List AV × Heap)) l (fun i (_ : Unit) => (([.t (tI i)], [.row false 0 4 (l.map Entry.enc)]) : List AV × Heap))
    (fun i _ x => if decide (x.ticket = t) = true then .done (i : Int) else .next ()) (fun _ => -1) (fun z (q : Int) => z ([.t (tI q)], [.row false 0 4 (l.map Entry.enc)])) (fun _ _ => True) () rfl trivial (find_run0 _ l)
    (fun i s x hx hI => Ev.of fun n z again => ?_) (fun _ _ _ _ _ _ _ => trivial) (fun s hI => Ev.of fun n z again => ?_)
  · have hfe : removeQ l t = l.filter fun x => !decide (x.ticket = t) := by unfold removeQ; congr 1; funext x; simp
    rw [hfe]
    rcases idx_cases (fun x : Entry => decide (x.ticket = t)) l with ⟨hi, hn⟩ | ⟨i, x, hi, hx, hp, hb⟩
    · rw [hi] at k1
      refine ((s1000048 (l.map Entry.enc) (by simp; omega)).and k1).mono fun n h => ?_
      simp only [h.1, h.2, vv, reduceCtorEq, Nat.reduceAdd, Nat.reduceEqDiff, J29_3, beq_self_eq_true]
      have e1 : List.take l.length (l.map Entry.enc) = l.map Entry.enc := List.take_of_length_le (by simp)
      have e2 : l.filter (fun x => !decide (x.ticket = t)) = l := filter_none fun j y _ hy => hn y (List.mem_of_getElem? hy)
      rw [e1, e2]
    · rw [hi] at k1
      have hil := lt_of_some hx
      have k2 := del_over (R := List Tree) (B := fun n p again => L29_2 n [.sl 4 (l.map Entry.enc)] t p again) (fun (r : List Entry) => [Tree.sl 4 (r.map Entry.enc)]) (fun x => decide (x.ticket = t)) l (fun (s : DS Entry) => (([.t (tI s.i), .t (tI s.j)], [.row false 0 4 (s.es.map Entry.enc)]) : List AV × Heap)) ⟨i, i + 1, l⟩ rfl (DInv.start hx hp hb) (fun s hD => Ev.of fun n again => ?_)
      · refine ((s1000048 (l.map Entry.enc) (by simp; omega)).and (k1.and k2)).mono fun n h => ?_
        obtain ⟨h1, h2, h3⟩ := h
        simp only [h1, h2, vv, reduceCtorEq, Nat.reduceAdd, Nat.reduceEqDiff, J29_3, (show (((i : Nat) : Int) == -1) = false by simp), w64_succ (show i < 4611686018427387904 by omega)]
        exact h3
      · have hat := hD.at
        obtain ⟨i', j, es⟩ := s
        obtain ⟨d1, d2, d3, d4, d5⟩ := hD
        simp only at d1 d2 d3 d4 d5 hat
        unfold dstep
        simp only
        cases hy : l[j]? with
        | none =>
          have hj : l.length ≤ j := by simpa using hy
          simp only [L29_2, vv, reduceCtorEq, Nat.reduceAdd, Nat.reduceEqDiff, (show ¬ (j : Int) < (l.length : Int) by omega), d3, (show (i' : Int) ≤ (l.length : Int) by omega), (show i' < l.length by omega), Rd.go_done, rowLen d3 (show i' ≤ l.length by omega), rowTail d3 (show i' ≤ l.length by omega)]
        | some y =>
          have hj := lt_of_some hy
          have hi2 : es[i']? = some es[i'] := List.getElem?_eq_getElem (by omega)
          simp only [L29_2, vv, reduceCtorEq, Nat.reduceAdd, Nat.reduceEqDiff, (show (j : Int) < (l.length : Int) by omega), hat, hy, hi2, Entry.enc, (show (i' : Int) < (l.length : Int) by omega), Nat.le_refl, w64_succ (show i' < 4611686018427387904 by omega), w64_succ (show j < 4611686018427387904 by omega), List.drop_succ_cons, List.append_nil]
          by_cases hpy : y.ticket = t
          · have : (y.ticket == t) = true := by simpa using hpy
            simp [this, hpy, cnd_eq, Rd.go_next]
          · have : (y.ticket == t) = false := by simpa using hpy
            simp [this, hpy, cnd_eq, Rd.go_next, List.map_set, Entry.enc]
  · have hi := lt_of_some hx
    simp only [L29_1, vv, reduceCtorEq, Nat.reduceAdd, Nat.reduceEqDiff, hx, Entry.enc, (show (i : Int) < l.length by omega), w64_succ (show i < 4611686018427387904 by omega)]
    by_cases h : x.ticket = t <;> simp [h, cnd_eq, Rd.go_next, Rd.go_done]
  · simp only [L29_1, vv, reduceCtorEq, Nat.reduceAdd, Nat.reduceEqDiff, Int.lt_irrefl]
theorem s1000029 (l : List Entry) (t : Int) (hl : l.length ≤ 1000000) : Runs C 1000029 [.sl 4 (l.map Entry.enc), tI t] [.sl 4 ((removeQ l t).map Entry.enc)] := by
  refine Runs.of (fun n => e1000029 n _ _) ?_
  have k1 := loop_overZ (R := List Tree) (Z := List AV × Heap → Option (List Tree)) (B := fun n z p again => L1000029_1 n [.sl 4 (l.map Entry.enc)] t z p again) (s := (([.t (tI 0)], [.row false 0 4 (l.map Entry.enc)]) : List AV × Heap)) l (fun i (_ : Unit) => (([.t (tI i)], [.row false 0 4 (l.map Entry.enc)]) : List AV × Heap))
    (fun i _ x => if decide (x.ticket = t) = true then .done (i : Int) else .next ()) (fun _ => -1) (fun z (q : Int) => z ([.t (tI q)], [.row false 0 4 (l.map Entry.enc)])) (fun _ _ => True) () rfl trivial (find_run0 _ l)
    (fun i s x hx hI => Ev.of fun n z again => ?_) (fun _ _ _ _ _ _ _ => trivial) (fun s hI => Ev.of fun n z again => ?_)
  · have hfe : removeQ l t = l.filter fun x => !decide (x.ticket = t) := by unfold removeQ; congr 1; funext x; simp
    rw [hfe]
    rcases idx_cases (fun x : Entry => decide (x.ticket = t)) l with ⟨hi, hn⟩ | ⟨i, x, hi, hx, hp, hb⟩
    · rw [hi] at k1
      refine ((s1000048 (l.map Entry.enc) (by simp; omega)).and k1).mono fun n h => ?_
      simp only [h.1, h.2, vv, reduceCtorEq, Nat.reduceAdd, Nat.reduceEqDiff, J1000029_3, beq_self_eq_true]
      have e1 : List.take l.length (l.map Entry.enc) = l.map Entry.enc := List.take_of_length_le (by simp)
      have e2 : l.filter (fun x => !decide (x.ticket = t)) = l := filter_none fun j y _ hy => hn y (List.mem_of_getElem? hy)
      rw [e1, e2]
    · rw [hi] at k1
      have hil := lt_of_some hx
      have k2 := del_over (R := List Tree) (B := fun n p again => L1000029_2 n [.sl 4 (l.map Entry.enc)] t p again) (fun (r : List Entry) => [Tree.sl 4 (r.map Entry.enc)]) (fun x => decide (x.ticket = t)) l (fun (s : DS Entry) => (([.t (tI s.i), .t (tI s.j)], [.row false 0 4 (s.es.map Entry.enc)]) : List AV × Heap)) ⟨i, i + 1, l⟩ rfl (DInv.start hx hp hb) (fun s hD => Ev.of fun n again => ?_)
      · refine ((s1000048 (l.map Entry.enc) (by simp; omega)).and (k1.and k2)).mono fun n h => ?_
        obtain ⟨h1, h2, h3⟩ := h
        simp only [h1, h2, vv, reduceCtorEq, Nat.reduceAdd, Nat.reduceEqDiff, J1000029_3, (show (((i : Nat) : Int) == -1) = false by simp), w64_succ (show i < 4611686018427387904 by omega)]
        exact h3
      · have hat := hD.at
        obtain ⟨i', j, es⟩ := s
        obtain ⟨d1, d2, d3, d4, d5⟩ := hD
        simp only at d1 d2 d3 d4 d5 hat
        unfold dstep
        simp only
        cases hy : l[j]? with
        | none =>
          have hj : l.length ≤ j := by simpa using hy
          simp only [L1000029_2, vv, reduceCtorEq, Nat.reduceAdd, Nat.reduceEqDiff, (show ¬ (j : Int) < (l.length : Int) by omega), d3, (show (i' : Int) ≤ (l.length : Int) by omega), (show i' < l.length by omega), Rd.go_done, rowLen d3 (show i' ≤ l.length by omega), rowTail d3 (show i' ≤ l.length by omega)]
        | some y =>
          have hj := lt_of_some hy
          have hi2 : es[i']? = some es[i'] := List.getElem?_eq_getElem (by omega)
          simp only [L1000029_2, vv, reduceCtorEq, Nat.reduceAdd, Nat.reduceEqDiff, (show (j : Int) < (l.length : Int) by omega), hat, hy, hi2, Entry.enc, (show (i' : Int) < (l.length : Int) by omega), Nat.le_refl, w64_succ (show i' < 4611686018427387904 by omega), w64_succ (show j < 4611686018427387904 by omega), List.drop_succ_cons, List.append_nil]
          by_cases hpy : y.ticket = t
          · have : (y.ticket == t) = true := by simpa using hpy
            simp [this, hpy, cnd_eq, Rd.go_next]
          · have : (y.ticket == t) = false := by simpa using hpy
            simp [this, hpy, cnd_eq, Rd.go_next, List.map_set, Entry.enc]
  · have hi := lt_of_some hx
    simp only [L1000029_1, vv, reduceCtorEq, Nat.reduceAdd, Nat.reduceEqDiff, hx, Entry.enc, (show (i : Int) < l.length by omega), w64_succ (show i < 4611686018427387904 by omega)]
    by_cases h : x.ticket = t <;> simp [h, cnd_eq, Rd.go_next, Rd.go_done]
  · simp only [L1000029_1, vv, reduceCtorEq, Nat.reduceAdd, Nat.reduceEqDiff, Int.lt_irrefl]
end Ab
