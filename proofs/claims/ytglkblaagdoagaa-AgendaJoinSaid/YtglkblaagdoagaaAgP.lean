/- Agenda: plain facts about sorted lists of events. -/
import Derived.Test.YtglkblaagdoagaaAgB
set_option linter.unusedVariables false
set_option linter.unusedSimpArgs false
namespace Ab
open Go

theorem lt_irr (a : Event) : less a a = false := by unfold less; simp
theorem lt_tr {a b c : Event} (h1 : less a b = true) (h2 : less b c = true) : less a c = true := by
  unfold less at *
  simp only [decide_eq_true_eq] at *
  omega
theorem lt_tri (a b : Event) : less a b = true ∨ a = b ∨ less b a = true := by
  cases a; cases b
  unfold less
  simp only [decide_eq_true_eq, Event.mk.injEq]
  omega
theorem lt_ne {a b : Event} (h : less a b = true) : a ≠ b := fun e => by rw [e, lt_irr] at h; cases h
theorem lt_asym {a b : Event} (h : less a b = true) : less b a = false := by
  cases h2 : less b a with
  | false => rfl
  | true => have := lt_tr h h2; rw [lt_irr] at this; cases this
theorem lt_of_not {a b : Event} (h : less a b = false) (hne : a ≠ b) : less b a = true := by
  rcases lt_tri a b with h1 | h1 | h1
  · rw [h] at h1; cases h1
  · exact absurd h1 hne
  · exact h1
def Srt (l : List Event) : Prop := l.Pairwise fun a b => less a b = true
theorem srt_cons {x : Event} {l : List Event} : Srt (x :: l) ↔ (∀ y ∈ l, less x y = true) ∧ Srt l := List.pairwise_cons
theorem srt_ext : ∀ {a b : List Event}, Srt a → Srt b → (∀ x, x ∈ a ↔ x ∈ b) → a = b
  | [], [], _, _, _ => rfl
  | [], y :: b, _, _, h => absurd ((h y).2 (by simp)) (by simp)
  | x :: a, [], _, _, h => absurd ((h x).1 (by simp)) (by simp)
  | x :: a, y :: b, ha, hb, h => by
    rw [srt_cons] at ha hb
    have hxy : x = y := by
      have h1 := (h x).1 (by simp)
      have h2 := (h y).2 (by simp)
      rw [List.mem_cons] at h1 h2
      rcases h1 with h1 | h1
      · exact h1
      · rcases h2 with h2 | h2
        · exact h2.symm
        · have := lt_asym (ha.1 y h2)
          rw [hb.1 x h1] at this
          cases this
    subst hxy
    congr 1
    refine srt_ext ha.2 hb.2 fun z => ?_
    constructor
    · intro hz
      rcases List.mem_cons.1 ((h z).1 (by simp [hz])) with h1 | h1
      · exact absurd h1.symm (lt_ne (ha.1 z hz))
      · exact h1
    · intro hz
      rcases List.mem_cons.1 ((h z).2 (by simp [hz])) with h1 | h1
      · exact absurd h1.symm (lt_ne (hb.1 z hz))
      · exact h1
theorem srt_adj : ∀ (l : List Event), (∀ (j : Nat) a b, l[j]? = some a → l[j + 1]? = some b → less a b = true) ↔ Srt l
  | [] => ⟨fun _ => .nil, fun _ j a b ha => by simp at ha⟩
  | [x] => ⟨fun _ => srt_cons.2 ⟨by simp, .nil⟩, fun _ j a b ha hb => by simp at hb⟩
  | x :: y :: l => by
    rw [srt_cons, ← srt_adj (y :: l)]
    constructor
    · intro h
      have h2 : ∀ (j : Nat) a b, (y :: l)[j]? = some a → (y :: l)[j + 1]? = some b → less a b = true := fun j a b ha hb => h (j + 1) a b (by simpa using ha) (by simpa using hb)
      refine ⟨fun z hz => ?_, h2⟩
      have hxy := h 0 x y rfl rfl
      rcases List.mem_cons.1 hz with rfl | hz
      · exact hxy
      · exact lt_tr hxy ((srt_cons.1 ((srt_adj (y :: l)).1 h2)).1 z hz)
    · rintro ⟨h1, h2⟩ j a b ha hb
      cases j with
      | zero =>
        simp at ha hb
        subst ha
        subst hb
        exact h1 _ (by simp)
      | succ j => exact h2 j a b (by simpa using ha) (by simpa using hb)
theorem ag_srt (l : List Event) : agCheck l = 0 ↔ l.length ≤ 1000 ∧ (∀ e ∈ l, validE e = true) ∧ Srt l := by
  rw [ag_iff, srt_adj]

/-! ### place, insert, remove -/
def pos (l : List Event) (e : Event) : Nat := l.countP fun x => less x e
theorem pos_cons_lt {x e : Event} {l : List Event} (h : less x e = true) : pos (x :: l) e = pos l e + 1 := by simp [pos, h]
theorem pos_cons_ge {x e : Event} {l : List Event} (hs : Srt (x :: l)) (h : less x e = false) : pos (x :: l) e = 0 := by
  rw [srt_cons] at hs
  simp only [pos, List.countP_eq_zero]
  intro y hy
  rcases List.mem_cons.1 hy with rfl | hy
  · simp [h]
  · intro hl
    have := lt_tr (hs.1 y hy) hl
    rw [h] at this
    cases this
theorem pos_le (l : List Event) (e : Event) : pos l e ≤ l.length := List.countP_le_length
theorem pos_eq {l : List Event} {e : Event} {k : Nat} (hk : k ≤ l.length) (h1 : ∀ (j : Nat) x, j < k → l[j]? = some x → less x e = true) (h2 : ∀ (j : Nat) x, k ≤ j → l[j]? = some x → less x e = false) : k = pos l e := by
  unfold pos
  conv => rhs; rw [← List.take_append_drop k l]
  rw [List.countP_append, List.countP_eq_length.2, List.countP_eq_zero.2]
  · simp; omega
  · intro x hx
    obtain ⟨j, hj⟩ := List.mem_iff_getElem?.1 hx
    rw [List.getElem?_drop] at hj
    simp [h2 _ _ (by omega) hj]
  · intro x hx
    obtain ⟨j, hj⟩ := List.mem_iff_getElem?.1 hx
    have hjk : j < k := by have := lt_of_some hj; simp at this; omega
    rw [List.getElem?_take_of_lt hjk] at hj
    exact h1 _ _ hjk hj
/-- An event at its place. -/
def insr (e : Event) : List Event → List Event
  | [] => [e]
  | x :: l => if less x e = true then x :: insr e l else e :: x :: l
theorem insr_eq : ∀ {l : List Event} (e : Event), Srt l → l.take (pos l e) ++ e :: l.drop (pos l e) = insr e l
  | [], e, _ => rfl
  | x :: l, e, hs => by
    by_cases h : less x e = true
    · rw [pos_cons_lt h]
      simp only [List.take_succ_cons, List.drop_succ_cons, List.cons_append, insr, h, if_true]
      rw [insr_eq e (srt_cons.1 hs).2]
    · have h : less x e = false := by simpa using h
      rw [pos_cons_ge hs h]
      simp [insr, h]
theorem insr_mem (e : Event) : ∀ (l : List Event) (x : Event), x ∈ insr e l ↔ x = e ∨ x ∈ l
  | [], x => by simp [insr]
  | y :: l, x => by
    unfold insr
    split
    · rw [List.mem_cons, insr_mem e l, List.mem_cons]
      constructor
      · rintro (h | h | h)
        · exact .inr (.inl h)
        · exact .inl h
        · exact .inr (.inr h)
      · rintro (h | h | h)
        · exact .inr (.inl h)
        · exact .inl h
        · exact .inr (.inr h)
    · simp
theorem insr_srt {e : Event} : ∀ {l : List Event}, Srt l → e ∉ l → Srt (insr e l)
  | [], _, _ => srt_cons.2 ⟨by simp, .nil⟩
  | y :: l, hs, hn => by
    have hs' := srt_cons.1 hs
    unfold insr
    split
    · rename_i h
      refine srt_cons.2 ⟨fun z hz => ?_, insr_srt hs'.2 fun hm => hn (by simp [hm])⟩
      rcases (insr_mem e l z).1 hz with rfl | hz
      · exact h
      · exact hs'.1 z hz
    · rename_i h
      have hy : less e y = true := lt_of_not (by simpa using h) fun he => hn (by simp [he])
      refine srt_cons.2 ⟨fun z hz => ?_, hs⟩
      rcases List.mem_cons.1 hz with rfl | hz
      · exact hy
      · exact lt_tr hy (hs'.1 z hz)
theorem insr_len (e : Event) : ∀ (l : List Event), (insr e l).length = l.length + 1
  | [] => rfl
  | y :: l => by
    unfold insr
    split
    · simp [insr_len e l]
    · simp
/-- An event taken out. -/
def remv (e : Event) (l : List Event) : List Event := l.filter fun x => decide (x ≠ e)
theorem remv_eq : ∀ {l : List Event} {e : Event}, Srt l → e ∈ l → l.take (pos l e) ++ l.drop (pos l e + 1) = remv e l
  | [], e, _, h => by simp at h
  | x :: l, e, hs, hm => by
    have hs' := srt_cons.1 hs
    by_cases h : less x e = true
    · rw [pos_cons_lt h]
      have hm' : e ∈ l := (List.mem_cons.1 hm).resolve_left fun he => lt_ne h he.symm
      have ih := remv_eq hs'.2 hm'
      simp only [List.take_succ_cons, List.drop_succ_cons, List.cons_append, ih]
      simp [remv, lt_ne h]
    · have h : less x e = false := by simpa using h
      rw [pos_cons_ge hs h]
      have hx : x = e := by
        rcases List.mem_cons.1 hm with he | he
        · exact he.symm
        · have := hs'.1 e he; rw [h] at this; cases this
      subst hx
      simp only [List.take_zero, List.nil_append, Nat.zero_add, List.drop_succ_cons, List.drop_zero, remv, List.filter_cons]
      simp only [ne_eq, not_true_eq_false, decide_false, Bool.false_eq_true, if_false]
      symm
      rw [List.filter_eq_self]
      intro a ha
      simpa using (lt_ne (hs'.1 a ha)).symm
theorem remv_mem (e : Event) (l : List Event) (x : Event) : x ∈ remv e l ↔ x ∈ l ∧ x ≠ e := by simp [remv]
theorem remv_srt {e : Event} {l : List Event} (h : Srt l) : Srt (remv e l) := List.Pairwise.filter _ h
theorem remv_len (e : Event) (l : List Event) : (remv e l).length ≤ l.length := List.length_filter_le _ _

/-- The reference's insert. -/
def insR (e : Event) : List Event → List Event
  | [] => [e]
  | x :: l => if less e x = true then e :: x :: l else x :: insR e l
def refIns (l : List Event) (e : Event) : List Event := if e ∈ l then l else insR e l
theorem insR_eq {e : Event} : ∀ {l : List Event}, e ∉ l → insR e l = insr e l
  | [], _ => rfl
  | x :: l, hn => by
    unfold insR insr
    by_cases h : less x e = true
    · rw [if_neg (by simp [lt_asym h]), if_pos h, insR_eq fun hm => hn (by simp [hm])]
    · have h : less x e = false := by simpa using h
      have hy : less e x = true := lt_of_not h fun he => hn (by simp [he])
      rw [if_pos hy, if_neg (by simp [h])]
theorem refIns_mem (l : List Event) (e x : Event) : x ∈ refIns l e ↔ x = e ∨ x ∈ l := by
  unfold refIns
  split
  · rename_i h
    constructor
    · exact .inr
    · rintro (rfl | h1)
      · exact h
      · exact h1
  · rename_i h
    rw [insR_eq h, insr_mem]
theorem refIns_srt {l : List Event} {e : Event} (h : Srt l) : Srt (refIns l e) := by
  unfold refIns
  split
  · exact h
  · rename_i hn; rw [insR_eq hn]; exact insr_srt h hn
theorem refIns_len (l : List Event) (e : Event) : (refIns l e).length ≤ l.length + 1 := by
  unfold refIns
  split
  · omega
  · rename_i h; rw [insR_eq h, insr_len]; omega
def insStep (e : Event) (s : List Event × Bool) (x : Event) : List Event × Bool := if s.2 = false ∧ less e x = true then (s.1 ++ [e, x], true) else (s.1 ++ [x], s.2)
def insFin (e : Event) (s : List Event × Bool) : List Event := if s.2 = false then s.1 ++ [e] else s.1
theorem insStep_done (e : Event) : ∀ (l out : List Event), l.foldl (insStep e) (out, true) = (out ++ l, true)
  | [], out => by simp
  | x :: l, out => by
    rw [List.foldl_cons, show insStep e (out, true) x = (out ++ [x], true) by simp [insStep], insStep_done e l]
    simp
theorem insStep_open (e : Event) : ∀ (l out : List Event), insFin e (l.foldl (insStep e) (out, false)) = out ++ insR e l
  | [], out => by simp [insFin, insR]
  | x :: l, out => by
    rw [List.foldl_cons]
    by_cases h : less e x = true
    · rw [show insStep e (out, false) x = (out ++ [e, x], true) by simp [insStep, h], insStep_done]
      simp [insFin, insR, h]
    · rw [show insStep e (out, false) x = (out ++ [x], false) by simp [insStep, h], insStep_open e l]
      simp [insR, h]
theorem ins_run (e : Event) (l : List Event) : insFin e (l.foldl (insStep e) ([], decide (e ∈ l))) = refIns l e := by
  unfold refIns
  by_cases h : e ∈ l
  · simp only [h, decide_true, insStep_done, if_true]
    simp [insFin]
  · simp only [h, decide_false, insStep_open, if_false, List.nil_append]

/-! ### merge -/
def mergeL : List Event → List Event → List Event
  | [], b => b
  | x :: a, [] => x :: a
  | x :: a, y :: b => if less x y = true then x :: mergeL a (y :: b) else if x = y then x :: mergeL a b else y :: mergeL (x :: a) b
termination_by a b => a.length + b.length
theorem mergeL_mem (a b : List Event) (z : Event) : z ∈ mergeL a b ↔ z ∈ a ∨ z ∈ b := by
  fun_induction mergeL a b <;> grind
theorem mergeL_srt (a b : List Event) : Srt a → Srt b → Srt (mergeL a b) := by
  fun_induction mergeL a b with
  | case1 b => exact fun _ h => h
  | case2 x a => exact fun h _ => h
  | case3 x a y b h ih =>
    intro ha hb
    have ha' := srt_cons.1 ha
    have hb' := srt_cons.1 hb
    refine srt_cons.2 ⟨fun z hz => ?_, ih ha'.2 hb⟩
    rcases (mergeL_mem _ _ _).1 hz with hz | hz
    · exact ha'.1 z hz
    · rcases List.mem_cons.1 hz with rfl | hz
      · exact h
      · exact lt_tr h (hb'.1 z hz)
  | case4 x a b h ih =>
    intro ha hb
    have ha' := srt_cons.1 ha
    have hb' := srt_cons.1 hb
    refine srt_cons.2 ⟨fun z hz => ?_, ih ha'.2 hb'.2⟩
    rcases (mergeL_mem _ _ _).1 hz with hz | hz
    · exact ha'.1 z hz
    · exact hb'.1 z hz
  | case5 x a y b h hne ih =>
    intro ha hb
    have ha' := srt_cons.1 ha
    have hb' := srt_cons.1 hb
    have hyx : less y x = true := lt_of_not (by simpa using h) hne
    refine srt_cons.2 ⟨fun z hz => ?_, ih ha hb'.2⟩
    rcases (mergeL_mem _ _ _).1 hz with hz | hz
    · rcases List.mem_cons.1 hz with rfl | hz
      · exact hyx
      · exact lt_tr hyx (ha'.1 z hz)
    · exact hb'.1 z hz
theorem mergeL_len (a b : List Event) : (mergeL a b).length ≤ a.length + b.length := by
  fun_induction mergeL a b <;> simp_all <;> omega
theorem foldIns_spec : ∀ (b a : List Event), Srt a → Srt (b.foldl refIns a) ∧ (∀ x, x ∈ b.foldl refIns a ↔ x ∈ a ∨ x ∈ b) ∧ (b.foldl refIns a).length ≤ a.length + b.length
  | [], a, h => ⟨h, by simp, by simp⟩
  | y :: b, a, h => by
    obtain ⟨h1, h2, h3⟩ := foldIns_spec b (refIns a y) (refIns_srt h)
    refine ⟨h1, fun x => ?_, ?_⟩
    · rw [List.foldl_cons, h2, refIns_mem, List.mem_cons]
      constructor
      · rintro ((h | h) | h)
        · exact .inr (.inl h)
        · exact .inl h
        · exact .inr (.inr h)
      · rintro (h | h | h)
        · exact .inl (.inr h)
        · exact .inl (.inl h)
        · exact .inr h
    · have := refIns_len a y
      simp only [List.foldl_cons, List.length_cons]
      omega
theorem merge_ref {a b : List Event} (ha : Srt a) (hb : Srt b) : b.foldl refIns a = mergeL a b := by
  obtain ⟨h1, h2, _⟩ := foldIns_spec b a ha
  exact srt_ext h1 (mergeL_srt a b ha hb) fun x => by rw [h2, mergeL_mem]
end Ab
