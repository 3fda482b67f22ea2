/- Queue: the law Expedited. -/
import Derived.Test.YtblkfmemhpjbgaaQuP
set_option linter.unusedVariables false
set_option linter.unusedSimpArgs false
namespace Ab
open Go


def isX (a : Arr) : Bool := decide (a.e.prio = 2)
def isE (x : Entry) : Bool := decide (x.prio = 2)
def sel : List Arr → List Int → List Int
  | a :: l, v :: o => if isX a = true then v :: sel l o else sel l o
  | _, _ => []
theorem sel_mark (k t : Int) : ∀ (l : List Arr) (o : List Int), sel l (markQ l k t o) = markQ (l.filter isX) k t (sel l o)
  | [], o => by simp [sel, markQ]
  | a :: l, [] => by simp [sel, markQ]
  | a :: l, v :: o => by
    have ih := sel_mark k t l o
    have e : markQ (a :: l) k t (v :: o) = (if a.e.ticket = k then t else v) :: markQ l k t o := rfl
    rw [e]
    cases ha : isX a with
    | true =>
      rw [List.filter_cons_of_pos ha]
      simp only [sel, ha, if_true, ih]
      rfl
    | false =>
      rw [List.filter_cons_of_neg (by simp [ha])]
      simp only [sel, ha, Bool.false_eq_true, if_false, ih]
theorem sel_mark_other (k t : Int) : ∀ (l : List Arr) (o : List Int), (∀ a ∈ l, isX a = true → a.e.ticket ≠ k) → sel l (markQ l k t o) = sel l o
  | [], o, _ => by simp [sel, markQ]
  | a :: l, [], _ => by simp [sel, markQ]
  | a :: l, v :: o, h => by
    have ih := sel_mark_other k t l o fun b hb => h b (by simp [hb])
    have e : markQ (a :: l) k t (v :: o) = (if a.e.ticket = k then t else v) :: markQ l k t o := rfl
    rw [e]
    cases ha : isX a with
    | true =>
      have := h a (by simp) ha
      simp only [sel, ha, if_true, ih, if_neg this]
    | false =>
      simp only [sel, ha, Bool.false_eq_true, if_false, ih]
theorem sel_rep : ∀ (l : List Arr), sel l (List.replicate l.length (-1)) = List.replicate (l.filter isX).length (-1)
  | [] => rfl
  | a :: l => by
    have ih := sel_rep l
    cases ha : isX a with
    | true =>
      rw [List.filter_cons_of_pos ha]
      simp only [List.length_cons, List.replicate_succ, sel, ha, if_true, ih]
    | false =>
      rw [List.filter_cons_of_neg (by simp [ha])]
      simp only [List.length_cons, List.replicate_succ, sel, ha, Bool.false_eq_true, if_false, ih]
theorem tw_filter {t : Int} (p : Arr → Bool) : ∀ (c : List Arr), (c.Pairwise fun a b => a.at_ ≤ b.at_) → (∀ a ∈ c, t ≤ a.at_) →
    (c.filter p).takeWhile (fun a => decide (a.at_ = t)) = (c.takeWhile fun a => decide (a.at_ = t)).filter p ∧ (c.filter p).dropWhile (fun a => decide (a.at_ = t)) = (c.dropWhile fun a => decide (a.at_ = t)).filter p
  | [], _, _ => ⟨rfl, rfl⟩
  | a :: c, hs, hl => by
    rw [List.pairwise_cons] at hs
    obtain ⟨h1, h2⟩ := tw_filter p c hs.2 fun b hb => hl b (by simp [hb])
    by_cases ha : a.at_ = t
    · cases hp : p a with
      | true =>
        rw [List.filter_cons_of_pos hp]
        simp [List.takeWhile_cons, List.dropWhile_cons, ha, hp, h1, h2]
      | false =>
        rw [List.filter_cons_of_neg (by simp [hp])]
        simp [List.takeWhile_cons, List.dropWhile_cons, ha, hp, h1, h2]
    · have hn : ∀ b ∈ a :: c, ¬ b.at_ = t := fun b hb => by
        have := hl a (by simp)
        rcases List.mem_cons.1 hb with rfl | hb
        · exact ha
        · have := hs.1 b hb; omega
      have e1 : ∀ (q : List Arr), (∀ b ∈ q, ¬ b.at_ = t) → q.takeWhile (fun a => decide (a.at_ = t)) = [] ∧ q.dropWhile (fun a => decide (a.at_ = t)) = q := by
        intro q hq
        cases q with
        | nil => exact ⟨rfl, rfl⟩
        | cons b q => simp [List.takeWhile_cons, List.dropWhile_cons, hq b (by simp)]
      obtain ⟨f1, f2⟩ := e1 (a :: c) hn
      obtain ⟨f3, f4⟩ := e1 ((a :: c).filter p) fun b hb => hn b (List.mem_filter.1 hb).1
      rw [f1, f2, f3, f4]
      exact ⟨rfl, rfl⟩
structure CX (l : List Arr) (s s' : QS) : Prop where
  co : s'.co = s.co.filter isX
  wait : s'.wait = s.wait.filter isE
  busy : s'.busy = true ↔ s.busy = true ∧ s.now.prio = 2
  nf : s'.busy = true → s'.now = s.now ∧ s'.fin = s.fin
  out : s'.out = sel l s.out
theorem CX.end {l : List Arr} {s s' : QS} (h : CX l s s') (hsy : SysQ l s) (hd : l.Pairwise fun a b => a.e.ticket ≠ b.e.ticket) (t : Int) : CX l (endQ l t s) (endQ (l.filter isX) t s') := by
  by_cases hx : s'.busy = true
  · unfold endQ
    obtain ⟨n1, n2⟩ := h.nf hx
    obtain ⟨b1, b2⟩ := h.busy.1 hx
    rw [hx, b1, n2]
    by_cases ht : t = s.fin
    · rw [if_pos ⟨rfl, ht⟩, if_pos ⟨rfl, ht⟩]
      refine ⟨h.co, h.wait, by simp, fun h => (by cases h), ?_⟩
      simp only
      rw [h.out, n1, sel_mark]
    · rw [if_neg (fun h => ht h.2), if_neg (fun h => ht h.2)]
      exact h
  · have e2 : endQ (l.filter isX) t s' = s' := by unfold endQ; rw [if_neg (fun h => hx h.1)]
    rw [e2]
    unfold endQ
    by_cases hb : s.busy = true ∧ t = s.fin
    · rw [if_pos hb]
      refine ⟨h.co, h.wait, by simp [hx], fun h => absurd h hx, ?_⟩
      simp only
      rw [h.out, sel_mark_other]
      intro a ha hax hat
      obtain ⟨b, hb1, hb2⟩ := hsy.mem s.now (by simp [allQ, hb.1])
      have hab : a = b := by
        obtain ⟨i, hi⟩ := List.mem_iff_getElem?.1 ha
        obtain ⟨j, hj⟩ := List.mem_iff_getElem?.1 hb1
        have hil := lt_of_some hi
        have hjl := lt_of_some hj
        rw [List.getElem?_eq_getElem hil] at hi
        rw [List.getElem?_eq_getElem hjl] at hj
        have hi := Option.some.inj hi
        have hj := Option.some.inj hj
        rcases Nat.lt_trichotomy i j with h | h | h
        · have := List.pairwise_iff_getElem.1 hd i j hil hjl h
          rw [hi, hj, hb2] at this
          exact absurd hat this
        · subst h; rw [← hi, ← hj]
        · have := List.pairwise_iff_getElem.1 hd j i hjl hil h
          rw [hi, hj, hb2] at this
          exact absurd hat.symm this
      have : s.now.prio = 2 := by rw [← hb2, ← hab]; simpa [isX] using hax
      exact hx (h.busy.2 ⟨hb.1, this⟩)
    · rw [if_neg hb]
      exact h
theorem CX.take {l : List Arr} {s s' : QS} {t : Int} (h : CX l s s') (h1 : SysQ l (takeQ t s)) (h2 : (takeQ t s').wait.Pairwise fun a b => ahead a b = true) (hs : s.co.Pairwise fun a b => a.at_ ≤ b.at_) (hl : ∀ a ∈ s.co, t ≤ a.at_) : CX l (takeQ t s) (takeQ t s') := by
  obtain ⟨f1, f2⟩ := tw_filter (t := t) isX s.co hs hl
  refine ⟨?_, ?_, h.busy, h.nf, h.out⟩
  · simp only [takeQ, h.co, f2]
  · refine srt_ext h2 (h1.srt.sublist List.filter_sublist) fun x => ?_
    simp only [takeQ, h.co, h.wait, f1]
    rw [List.mem_filter, insF_mem, insF_mem, List.mem_filter]
    constructor
    · rintro (⟨h, hx⟩ | ⟨a, ha, rfl⟩)
      · exact ⟨.inl h, hx⟩
      · rw [List.mem_filter] at ha
        exact ⟨.inr ⟨a, ha.1, rfl⟩, ha.2⟩
    · rintro ⟨h | ⟨a, ha, rfl⟩, hx⟩
      · exact .inl ⟨h, hx⟩
      · exact .inr ⟨a, List.mem_filter.2 ⟨ha, hx⟩, rfl⟩
theorem filter_comm {α : Type} (p q : α → Bool) (l : List α) : (l.filter p).filter q = (l.filter q).filter p := by
  rw [List.filter_filter, List.filter_filter]
  congr 1
  funext x
  rw [Bool.and_comm]
theorem CX.exp {l : List Arr} {s s' : QS} (h : CX l s s') (t : Int) : CX l (expQ t s) (expQ t s') := by
  refine ⟨h.co, ?_, h.busy, h.nf, h.out⟩
  simp only [expQ, freshQ, h.wait]
  rw [filter_comm]
/-- Without an entry that interrupts, no expedited entry waits. -/
theorem no_x {w : List Entry} (hs : w.Pairwise fun a b => ahead a b = true) (hv : ∀ x ∈ w, ValidE x) (h : ∀ x r, w = x :: r → x.prio ≠ 2) : w.filter isE = [] := by
  rw [List.filter_eq_nil_iff]
  intro z hz
  cases w with
  | nil => simp at hz
  | cons x r =>
    rw [List.pairwise_cons] at hs
    have hx := h x r rfl
    rcases List.mem_cons.1 hz with rfl | hz
    · simpa [isE] using hx
    · have h1 := hs.1 z hz
      have h2 := hv x (by simp)
      have h3 := hv z (by simp [hz])
      unfold ahead at h1
      unfold ValidE at h2 h3
      simp only [decide_eq_true_eq] at h1
      simp only [isE, decide_eq_true_eq]
      omega
theorem CX.pre {l : List Arr} {s s' : QS} (h : CX l s s') (hsy : SysQ l s) (hv : ∀ x ∈ s.wait, ValidE x) (hn : s.busy = true → ValidE s.now) {t : Int} (hf : freshQ s.wait t = s.wait) : CX l (preQ t s) (preQ t s') ∧ ((preQ t s').busy = false → (preQ t s).busy = true → (preQ t s').wait = []) := by
  have hs' : preQ t s' = s' := by
    unfold preQ
    split
    · rw [if_neg]
      rintro ⟨hb, hp⟩
      have h1 := h.nf hb
      have h2 := h.busy.1 hb
      unfold Ab.pre at hp
      rw [h1.1] at hp
      omega
    · rfl
  rw [hs']
  unfold preQ
  cases hw : s.wait with
  | nil =>
    refine ⟨h, fun _ _ => ?_⟩
    rw [h.wait, hw]
    rfl
  | cons x r =>
    simp only
    by_cases hp : s.busy = true ∧ Ab.pre x s.now
    · rw [if_pos hp]
      refine ⟨⟨h.co, ?_, ?_, fun hb => ?_, h.out⟩, fun _ h => by cases h⟩
      · simp only
        have hne : s.now.prio ≠ 2 := by have := hp.2.2; omega
        rw [h.wait, hw]
        unfold freshQ
        rw [filter_comm]
        have e1 : (insQ s.now (x :: r)).filter isE = (x :: r).filter isE := insB_filter _ _ _ _ (by simpa [isE] using hne)
        rw [e1, filter_comm]
        have hf' : (x :: r).filter (fun x => decide (x.exp > t)) = x :: r := by rw [← hw]; exact hf
        rw [hf']
      · simp only [Bool.false_eq_true, false_and, iff_false]
        intro hb
        have h2 := (h.busy.1 hb).2
        have := hp.2.2
        omega
      · have h2 := (h.busy.1 hb).2
        have := hp.2.2
        omega
    · rw [if_neg hp]
      refine ⟨h, fun hb' hb => ?_⟩
      rw [h.wait]
      refine no_x hsy.srt hv fun y q hy => ?_
      rw [hw] at hy
      cases hy
      intro hx2
      have hnp : ¬ s.now.prio = 2 := fun h2 => by have := h.busy.2 ⟨hb, h2⟩; rw [hb'] at this; cases this
      have hv2 := hn hb
      unfold ValidE at hv2
      exact hp ⟨hb, hx2, by omega⟩
theorem CX.beg {l : List Arr} {s s' : QS} (h : CX l s s') (hsy : SysQ l s) (hv : ∀ x ∈ s.wait, ValidE x) (hi : s'.busy = false → s.busy = true → s'.wait = []) (rate t : Int) : CX l (begQ rate t s) (begQ rate t s') ∧ ((begQ rate t s').busy = false → (begQ rate t s').wait = []) := by
  cases hb : s.busy with
  | true =>
    have e1 : begQ rate t s = s := by unfold begQ; rw [if_pos hb]
    rw [e1]
    cases hb' : s'.busy with
    | true =>
      have e2 : begQ rate t s' = s' := by unfold begQ; rw [if_pos hb']
      rw [e2]
      exact ⟨h, fun h => by rw [hb'] at h; cases h⟩
    | false =>
      have hw := hi hb' hb
      have e2 : begQ rate t s' = s' := by unfold begQ; rw [if_neg (by simp [hb']), hw]
      rw [e2]
      exact ⟨h, fun _ => hw⟩
  | false =>
    have hb' : s'.busy = false := by
      cases hc : s'.busy with
      | false => rfl
      | true => have := (h.busy.1 hc).1; rw [hb] at this; cases this
    cases hw : s.wait with
    | nil =>
      have hw' : s'.wait = [] := by rw [h.wait, hw]; rfl
      have e1 : begQ rate t s = s := by unfold begQ; rw [if_neg (by simp [hb]), hw]
      have e2 : begQ rate t s' = s' := by unfold begQ; rw [if_neg (by simp [hb']), hw']
      rw [e1, e2]
      exact ⟨h, fun _ => hw'⟩
    | cons x r =>
      have e1 : begQ rate t s = { s with now := x, wait := r, busy := true, fin := t + durQ rate x } := by unfold begQ; rw [if_neg (by simp [hb]), hw]
      by_cases hx : x.prio = 2
      · have hw' : s'.wait = x :: r.filter isE := by rw [h.wait, hw, List.filter_cons_of_pos (by simpa [isE] using hx)]
        have e2 : begQ rate t s' = { s' with now := x, wait := r.filter isE, busy := true, fin := t + durQ rate x } := by unfold begQ; rw [if_neg (by simp [hb']), hw']
        rw [e1, e2]
        exact ⟨⟨h.co, rfl, by simp [hx], fun _ => ⟨rfl, rfl⟩, h.out⟩, fun h => by cases h⟩
      · have hw' : s'.wait = [] := by
          rw [h.wait]
          refine no_x hsy.srt hv fun y q hy => ?_
          rw [hw] at hy
          cases hy
          exact hx
        have e2 : begQ rate t s' = s' := by unfold begQ; rw [if_neg (by simp [hb']), hw']
        rw [e1, e2]
        refine ⟨⟨h.co, ?_, by simp [hb', hx], fun h => (by rw [hb'] at h; cases h), h.out⟩, fun _ => hw'⟩
        simp only
        rw [hw']
        have := h.wait
        rw [hw', hw, List.filter_cons_of_neg (by simpa [isE] using hx)] at this
        exact this
end Ab
