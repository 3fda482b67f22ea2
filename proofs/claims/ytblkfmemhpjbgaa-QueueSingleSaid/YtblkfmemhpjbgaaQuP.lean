/- Parts of the proof: see the last text. -/
import Derived.Test.YtblkfmemhpjbgaaQuN
set_option linter.unusedVariables false
set_option linter.unusedSimpArgs false
namespace Ab
open Go


theorem runQ_ind {l : List Arr} {rate : Int} (P : QS → Prop) (Q : List Int → Prop) (hstep : ∀ s t, P s → timeQ s = some t → P (stepQ l rate t s)) (hend : ∀ s, P s → timeQ s = none → Q s.out) : ∀ (k : Nat) (s : QS), muQ s ≤ k → P s → Q (runQ l rate s)
  | k, s, hk, hP => by
    rw [runQ_eq]
    cases ht : timeQ s with
    | none =>
      have : roundQ l rate s = .done s.out := by unfold roundQ; rw [ht]
      rw [this]
      exact hend s hP ht
    | some t =>
      have : roundQ l rate s = .next (stepQ l rate t s) := by unfold roundQ; rw [ht]
      rw [this]
      have hm := mu_step (l := l) (rate := rate) ht
      obtain ⟨k, rfl⟩ : ∃ q, k = q + 1 := ⟨k - 1, by omega⟩
      exact runQ_ind P Q hstep hend k _ (by omega) (hstep s t hP ht)
theorem checkR_zero {l : List Arr} {rate : Int} : checkR l rate = 0 ↔ (1 ≤ rate ∧ rate ≤ 1000) ∧ GoodA l := by
  unfold checkR
  split
  · constructor
    · intro h; cases h
    · intro h; omega
  · rw [checkA_zero]
    constructor
    · intro h; exact ⟨by omega, h⟩
    · intro h; exact h.2
theorem serve_len {l : List Arr} (hg : GoodA l) {rate : Int} (hr : 1 ≤ rate ∧ rate ≤ 1000) : (serveQ l rate).length = l.length :=
  runQ_ind (QInv l) (fun o => o.length = l.length) (fun s t h ht => h.step hg hr ht) (fun s h _ => h.out) _ (startQ l) (Nat.le_refl _) QInv.start
theorem servR_len (l : List Arr) (rate : Int) : (servR l rate).1.length ≤ l.length := by
  unfold servR
  split
  · simp
  · rename_i h
    have := (checkR_zero (l := l) (rate := rate)).1 (Classical.not_not.1 h)
    rw [serve_len this.2 this.1]
    omega
theorem s11 (l : List (List Tree)) : Runs C 11 [.sl 5 l] [.bool (great l.length)] := by
  refine Runs.of (fun n => e11 n _) (Ev.of fun n => ?_)
  unfold great
  by_cases h1 : 12 < l.length
  · by_cases h2 : l.length < 63
    · simp only [vv, reduceCtorEq, Nat.reduceAdd, Nat.reduceEqDiff, (show (12 : Int) < (l.length : Int) by omega), (show (l.length : Int) < 63 by omega), h1, h2]
    · simp only [vv, reduceCtorEq, Nat.reduceAdd, Nat.reduceEqDiff, (show (12 : Int) < (l.length : Int) by omega), (show ¬ (l.length : Int) < 63 by omega), h1, h2]
      congr 3
      simp
      omega
  · simp only [vv, reduceCtorEq, Nat.reduceAdd, Nat.reduceEqDiff, (show ¬ (12 : Int) < (l.length : Int) by omega), h1, (show ¬ (70 : Int) < (l.length : Int) by omega), (show ¬ 70 < l.length by omega)]
theorem law3 (l : List Arr) (rate : Int) : Runs C 3 [.sl 5 (l.map Arr.enc), tI rate] [.bool true] := by
  refine Runs.of (fun n => e3 n _ _) ?_
  have hg := s11 (l.map Arr.enc)
  rw [List.length_map] at hg
  cases hgr : great l.length with
  | true =>
    rw [hgr] at hg
    refine (hg.and s12).mono fun n h => ?_
    simp only [h.1, h.2, vv, reduceCtorEq, Nat.reduceAdd, Nat.reduceEqDiff]
  | false =>
    rw [hgr] at hg
    have h70 := big_great hgr
    have hsl := servR_len l rate
    refine (hg.and (s12.and ((s13 l rate (by omega)).and ((s14 l rate (by omega)).and (s15 (servR l rate).1 (servR l rate).1 (by omega)))))).mono fun n h => ?_
    obtain ⟨h1, h2, h3, h4, h5⟩ := h
    simp only [h1, vv, reduceCtorEq, Nat.reduceAdd, Nat.reduceEqDiff, h3, h4, h5, beq_self_eq_true, h2]
end Ab

set_option linter.unusedVariables false
set_option linter.unusedSimpArgs false
namespace Ab
open Go


/-- One transmission ends at a time: what a round does to the place of an entry. -/
theorem out_step (l : List Arr) (rate t : Int) (s : QS) : (stepQ l rate t s).out = (endQ l t s).out := by
  have h1 : ∀ s, (begQ rate t s).out = s.out := fun s => by unfold begQ; split; rfl; split <;> rfl
  have h2 : ∀ s, (preQ t s).out = s.out := fun s => by unfold preQ; split; (split <;> rfl); rfl
  unfold stepQ
  rw [h1, h2]
  rfl
/-- The entry at place i is not among those that are still to be sent. -/
def Gone (l : List Arr) (i : Nat) (s : QS) : Prop := ∀ a, l[i]? = some a → ∀ x ∈ allQ s, x.ticket ≠ a.e.ticket
theorem all_step {l : List Arr} {s : QS} (rate t : Int) (x : Entry) (h : x ∈ allQ (stepQ l rate t s)) : x ∈ allQ (endQ l t s) := by
  unfold stepQ at h
  have hb : ∀ (s : QS) (x : Entry), x ∈ allQ (begQ rate t s) → x ∈ allQ s := fun s x hx => by
    unfold begQ at hx
    split at hx
    · exact hx
    · rename_i hb
      split at hx
      · exact hx
      · rename_i y r hw
        simp only [allQ, hw, hb, if_true] at hx ⊢
        simp at hx ⊢
        rcases hx with h | h | h
        · exact .inr (.inl h)
        · exact .inl h
        · exact .inr (.inr h)
  have hp : ∀ (s : QS) (x : Entry), x ∈ allQ (preQ t s) → x ∈ allQ s := fun s x hx => by
    unfold preQ at hx
    split at hx
    · rename_i y r hw
      split at hx
      · rename_i hb
        simp only [allQ, Bool.false_eq_true, if_false, List.nil_append, List.mem_append, hb.1, if_true] at hx ⊢
        rcases hx with h | h
        · rcases (insB_mem _ _ _ _).1 (List.mem_filter.1 h).1 with rfl | h
          · simp
          · exact .inl h
        · exact .inr (.inr h)
      · exact hx
    · exact hx
  have he : ∀ (s : QS) (x : Entry), x ∈ allQ (expQ t s) → x ∈ allQ s := fun s x hx => by
    simp only [allQ, expQ, List.mem_append] at hx ⊢
    rcases hx with h | h
    · exact .inl (List.mem_filter.1 h).1
    · exact .inr h
  have ht : ∀ (s : QS) (x : Entry), x ∈ allQ (takeQ t s) → x ∈ allQ s := fun s x hx => by
    simp only [allQ, takeQ, List.mem_append, List.mem_map] at hx ⊢
    rcases hx with h | h | ⟨a, h, rfl⟩
    · rcases (insF_mem _ _ _).1 h with h | ⟨a, ha, rfl⟩
      · exact .inl h
      · exact .inr (.inr ⟨a, (List.takeWhile_sublist _).subset ha, rfl⟩)
    · exact .inr (.inl h)
    · exact .inr (.inr ⟨a, (List.dropWhile_sublist _).subset h, rfl⟩)
  exact ht _ _ (he _ _ (hp _ _ (hb _ _ h)))
theorem markQ_at (l : List Arr) (k t : Int) (o : List Int) (i : Nat) : (markQ l k t o)[i]? = match l[i]?, o[i]? with
    | some a, some v => some (if a.e.ticket = k then t else v)
    | _, _ => none := by
  unfold markQ
  rw [List.getElem?_zipWith]
  cases l[i]? <;> cases o[i]? <;> rfl
theorem gone_run {l : List Arr} {rate : Int} {i : Nat} {a : Arr} (ha : l[i]? = some a) {v : Int} (s : QS) (hg : Gone l i s) (hv : s.out[i]? = some v) : (runQ l rate s)[i]? = some v := by
  refine runQ_ind (fun s => Gone l i s ∧ s.out[i]? = some v) (fun o => o[i]? = some v) (fun s t h ht => ?_) (fun s h _ => h.2) _ s (Nat.le_refl _) ⟨hg, hv⟩
  obtain ⟨h1, h2⟩ := h
  have hend : Gone l i (endQ l t s) ∧ (endQ l t s).out[i]? = some v := by
    unfold endQ
    split
    · rename_i hb
      refine ⟨fun b hb' x hx => h1 b hb' x ?_, ?_⟩
      · simp only [allQ, Bool.false_eq_true, if_false, List.nil_append, List.mem_append] at hx ⊢
        rcases hx with h | h
        · exact .inl h
        · exact .inr (.inr h)
      · simp only
        rw [markQ_at, ha, h2]
        have := h1 a ha s.now (by simp [allQ, hb.1])
        simp only
        rw [if_neg (fun h => this h.symm)]
    · exact ⟨h1, h2⟩
  refine ⟨fun b hb x hx => hend.1 b hb x (all_step rate t x hx), ?_⟩
  rw [out_step]
  exact hend.2
/-- What is sent later than T. -/
structure After (T : Int) (s : QS) : Prop where
  fin : s.busy = true → T < s.fin
  co : ∀ a ∈ s.co, T < a.at_
theorem time_after {T t : Int} {s : QS} (h : After T s) (ht : timeQ s = some t) : T < t := by
  unfold timeQ at ht
  split at ht
  · rename_i hb hc
    cases ht
    exact h.fin hb
  · rename_i a r hb hc
    cases ht
    have h1 := h.fin hb
    have h2 := h.co a (by rw [hc]; simp)
    split <;> omega
  · rename_i a r hb hc
    cases ht
    exact h.co a (by rw [hc]; simp)
  · cases ht
theorem time_le {t : Int} {s : QS} (hs : s.co.Pairwise fun a b => a.at_ ≤ b.at_) (ht : timeQ s = some t) : (s.busy = true → t ≤ s.fin) ∧ ∀ a ∈ s.co, t ≤ a.at_ := by
  have hh : ∀ a r, s.co = a :: r → ∀ b ∈ s.co, a.at_ ≤ b.at_ := fun a r hc b hb => by
    rw [hc] at hs hb
    rcases List.mem_cons.1 hb with rfl | hb
    · omega
    · exact (List.pairwise_cons.1 hs).1 b hb
  unfold timeQ at ht
  split at ht
  · rename_i hb hc
    cases ht
    exact ⟨fun _ => Int.le_refl _, by rw [hc]; simp⟩
  · rename_i a r hb hc
    cases ht
    refine ⟨fun _ => (by split <;> omega), fun b hb => ?_⟩
    have := hh a r hc b hb
    split <;> omega
  · rename_i a r hb hc
    cases ht
    exact ⟨fun h => (by rw [hb] at h; cases h), hh a r hc⟩
  · cases ht
/-- Behind a round, all is later. -/
theorem after_step {l : List Arr} (hg : GoodA l) {rate : Int} (hr : 1 ≤ rate ∧ rate ≤ 1000) {s : QS} (hq : QInv l s) {t : Int} (ht : timeQ s = some t) : After t (stepQ l rate t s) := by
  have hcs : s.co.Pairwise fun a b => a.at_ ≤ b.at_ := by rw [hq.co]; exact hg.srt.sublist (List.drop_sublist _ _)
  obtain ⟨h1, h2⟩ := time_le hcs ht
  have hm := (((hq.mid.end t).take hg t).exp t).pre t
  have e1 : (endQ l t s).co = s.co := by unfold endQ; split <;> rfl
  have hpc : ∀ z : QS, (preQ t z).co = z.co := fun z => by unfold preQ; split; (split <;> rfl); rfl
  have hbc : ∀ z : QS, (begQ rate t z).co = z.co := fun z => by unfold begQ; split; rfl; split <;> rfl
  have hco : (stepQ l rate t s).co = s.co.dropWhile fun a => decide (a.at_ = t) := by
    unfold stepQ
    rw [hbc, hpc]
    show (endQ l t s).co.dropWhile _ = _
    rw [e1]
  constructor
  · intro hb
    unfold stepQ at hb ⊢
    generalize hz : preQ t (expQ t (takeQ t (endQ l t s))) = z at hb hm ⊢
    unfold begQ at hb ⊢
    by_cases hzb : z.busy = true
    · rw [if_pos hzb] at hb ⊢
      rw [← hz] at hzb ⊢
      have hpb : (endQ l t s).busy = true ∧ (preQ t (expQ t (takeQ t (endQ l t s)))).fin = (endQ l t s).fin := by
        unfold preQ at hzb ⊢
        split at hzb
        · split at hzb
          · cases hzb
          · rename_i hn
            rw [if_neg hn]
            exact ⟨hzb, rfl⟩
        · exact ⟨hzb, rfl⟩
      rw [hpb.2]
      have hbe := hpb.1
      unfold endQ at hbe ⊢
      split at hbe
      · cases hbe
      · rename_i hn
        rw [if_neg hn]
        have := h1 hbe
        have : t ≠ s.fin := fun h => hn ⟨hbe, h⟩
        omega
    · rw [if_neg hzb] at hb ⊢
      split
      · rename_i hw
        rw [hw] at hb
        exact absurd hb hzb
      · rename_i x r hw
        have := dur_bd hr (hm.wv x (by rw [hw]; simp))
        simp only
        omega
  · intro a ha
    rw [hco] at ha
    have hsub : a ∈ s.co := (List.dropWhile_sublist _).subset ha
    have hle := h2 a hsub
    -- the first one that is left is later, all others too
    cases hd : s.co.dropWhile fun a => decide (a.at_ = t) with
    | nil => rw [hd] at ha; simp at ha
    | cons b r =>
      have hbt : ¬ b.at_ = t := by
        have h3 := List.head_dropWhile_not (fun a : Arr => decide (a.at_ = t)) (l := s.co) (by rw [hd]; simp)
        simp only [hd, List.head_cons, decide_eq_false_iff_not] at h3
        exact h3
      have hbm : b ∈ s.co := (List.dropWhile_sublist _).subset (by rw [hd]; simp)
      have hbl := h2 b hbm
      have hps := hcs.sublist (List.dropWhile_sublist (fun a : Arr => decide (a.at_ = t)))
      rw [hd] at ha hps
      rcases List.mem_cons.1 ha with rfl | ha
      · omega
      · have := (List.pairwise_cons.1 hps).1 a ha
        omega
/-- What is not marked yet is marked later than T, or not at all. -/
theorem late {l : List Arr} (hg : GoodA l) {rate : Int} (hr : 1 ≤ rate ∧ rate ≤ 1000) (T : Int) (i : Nat) : ∀ (k : Nat) (s : QS), muQ s ≤ k → QInv l s → SysQ l s → After T s → s.out[i]? = some (-1) → ∀ v, (runQ l rate s)[i]? = some v → v = -1 ∨ T < v
  | k, s, hk, hq, hsy, haf, ho, v, hv => by
    rw [runQ_eq] at hv
    cases ht : timeQ s with
    | none =>
      have : roundQ l rate s = .done s.out := by unfold roundQ; rw [ht]
      rw [this] at hv
      have hv : s.out[i]? = some v := hv
      rw [ho] at hv
      cases hv
      exact .inl rfl
    | some t =>
      have hrd : roundQ l rate s = .next (stepQ l rate t s) := by unfold roundQ; rw [ht]
      rw [hrd] at hv
      have hv : (runQ l rate (stepQ l rate t s))[i]? = some v := hv
      have hm := mu_step (l := l) (rate := rate) ht
      obtain ⟨k, rfl⟩ : ∃ q, k = q + 1 := ⟨k - 1, by omega⟩
      have hTt := time_after haf ht
      have haf2 := after_step hg hr hq ht
      have haf3 : After T (stepQ l rate t s) := ⟨fun hb => by have := haf2.fin hb; omega, fun a ha => by have := haf2.co a ha; omega⟩
      have hil : i < l.length := by have := lt_of_some ho; rw [hq.out] at this; exact this
      have ha : l[i]? = some l[i] := List.getElem?_eq_getElem hil
      by_cases hmk : (s.busy = true ∧ t = s.fin) ∧ (l[i]).e.ticket = s.now.ticket
      · -- marked now
        have hnow : ∃ a ∈ l, a.e = s.now := hsy.mem s.now (by simp [allQ, hmk.1.1])
        have hout : (stepQ l rate t s).out[i]? = some t := by
          rw [out_step]
          unfold endQ
          rw [if_pos hmk.1]
          simp only
          rw [markQ_at, ha, ho]
          simp only
          rw [if_pos hmk.2]
        have hgone : Gone l i (stepQ l rate t s) := by
          intro b hb x hx hxt
          rw [ha] at hb
          have hbe := Option.some.inj hb
          have hx2 := all_step rate t x hx
          unfold endQ at hx2
          rw [if_pos hmk.1] at hx2
          have hd := hsy.dis
          unfold allQ at hd hx2
          simp only [hmk.1.1, if_true, Bool.false_eq_true, if_false, List.nil_append] at hd hx2
          rw [← hbe, hmk.2] at hxt
          rcases List.mem_append.1 hx2 with h | h
          · exact (List.pairwise_append.1 hd).2.2 x h s.now (by simp) hxt
          · have hd2 := (List.pairwise_append.1 hd).2.1
            exact (List.pairwise_cons.1 (show (s.now :: s.co.map Arr.e).Pairwise _ from hd2)).1 x h hxt.symm
        rw [gone_run ha _ hgone hout] at hv
        cases hv
        exact .inr hTt
      · have hout : (stepQ l rate t s).out[i]? = some (-1) := by
          rw [out_step]
          unfold endQ
          split
          · rename_i hb
            simp only
            rw [markQ_at, ha, ho]
            simp only
            rw [if_neg fun h => hmk ⟨hb, h⟩]
          · exact ho
        exact late hg hr T i k _ (by omega) (hq.step hg hr ht) (hsy.step rate t) haf3 hout v hv

/-! ### later arrivals -/
structure Cpl (D : List Arr) (i : Nat) (s s' : QS) : Prop where
  co : s.co = s'.co ++ D
  wait : s'.wait = s.wait
  now : s'.now = s.now
  fin : s'.fin = s.fin
  busy : s'.busy = s.busy
  out : s'.out[i]? = s.out[i]?
theorem tw_app {α : Type} {p : α → Bool} : ∀ {A D : List α}, (∀ x ∈ D, p x = false) → (A ++ D).takeWhile p = A.takeWhile p ∧ (A ++ D).dropWhile p = A.dropWhile p ++ D
  | [], D, h => by
    cases D with
    | nil => exact ⟨rfl, rfl⟩
    | cons x D => simp [h x (by simp)]
  | a :: A, D, h => by
    obtain ⟨h1, h2⟩ := tw_app (A := A) h
    simp only [List.cons_append, List.takeWhile_cons, List.dropWhile_cons, h1, h2]
    split <;> simp
theorem Cpl.end {D : List Arr} {i : Nat} {l l' : List Arr} (hl : l'[i]? = l[i]?) {s s' : QS} (h : Cpl D i s s') (t : Int) : Cpl D i (endQ l t s) (endQ l' t s') := by
  unfold endQ
  rw [h.busy, h.fin]
  split
  · refine ⟨h.co, h.wait, h.now, rfl, rfl, ?_⟩
    simp only
    rw [markQ_at, markQ_at, hl, h.out, h.now]
  · exact h
theorem Cpl.take {D : List Arr} {i : Nat} {s s' : QS} (h : Cpl D i s s') {t : Int} (hD : ∀ a ∈ D, a.at_ ≠ t) : Cpl D i (takeQ t s) (takeQ t s') := by
  obtain ⟨h1, h2⟩ := tw_app (p := fun a : Arr => decide (a.at_ = t)) (A := s'.co) (D := D) fun x hx => by simpa using hD x hx
  refine ⟨?_, ?_, h.now, h.fin, h.busy, h.out⟩
  · simp only [takeQ, h.co, h2]
  · simp only [takeQ, h.co, h1, h.wait]
theorem Cpl.exp {D : List Arr} {i : Nat} {s s' : QS} (h : Cpl D i s s') (t : Int) : Cpl D i (expQ t s) (expQ t s') := ⟨h.co, by simp only [expQ, h.wait], h.now, h.fin, h.busy, h.out⟩
theorem Cpl.pre {D : List Arr} {i : Nat} {s s' : QS} (h : Cpl D i s s') (t : Int) : Cpl D i (preQ t s) (preQ t s') := by
  unfold preQ
  rw [h.wait, h.busy, h.now]
  cases hw : s.wait with
  | nil => exact h
  | cons x r =>
    simp only
    split
    · exact ⟨h.co, rfl, rfl, h.fin, rfl, h.out⟩
    · exact h
theorem Cpl.beg {D : List Arr} {i : Nat} {s s' : QS} (h : Cpl D i s s') (rate t : Int) : Cpl D i (begQ rate t s) (begQ rate t s') := by
  unfold begQ
  rw [h.wait, h.busy]
  split
  · exact h
  · cases hw : s.wait with
    | nil => exact h
    | cons x r => exact ⟨h.co, rfl, rfl, rfl, rfl, h.out⟩
theorem Cpl.step {D : List Arr} {i : Nat} {l l' : List Arr} (hl : l'[i]? = l[i]?) {s s' : QS} (h : Cpl D i s s') {t : Int} (hD : ∀ a ∈ D, a.at_ ≠ t) (rate : Int) : Cpl D i (stepQ l rate t s) (stepQ l' rate t s') :=
  ((((h.end hl t).take hD).exp t).pre t).beg rate t
theorem Cpl.time {D : List Arr} {i : Nat} {s s' : QS} (h : Cpl D i s s') {t : Int} (ht : timeQ s = some t) (hD : ∀ a ∈ D, t < a.at_ ∨ s.busy = true ∧ s.fin = t ∧ t ≤ a.at_) : timeQ s' = some t := by
  unfold timeQ at ht ⊢
  rw [h.busy, h.fin]
  have hco := h.co
  cases hc' : s'.co with
  | nil =>
    rw [hc', List.nil_append] at hco
    cases hb : s.busy with
    | true =>
      rw [hb] at ht
      cases hD' : D with
      | nil => rw [hco, hD'] at ht; exact ht
      | cons a D2 =>
        rw [hco, hD'] at ht
        have h1 := hD a (by rw [hD']; simp)
        simp only [Option.some.injEq] at ht
        simp only [Option.some.injEq]
        split at ht <;> omega
    | false =>
      rw [hb] at ht
      cases hD' : D with
      | nil => rw [hco, hD'] at ht; cases ht
      | cons a D2 =>
        rw [hco, hD'] at ht
        have h1 := hD a (by rw [hD']; simp)
        simp only [Option.some.injEq] at ht
        rcases h1 with h1 | h1
        · omega
        · rw [hb] at h1; cases h1.1
  | cons a r =>
    rw [hco, hc'] at ht
    cases hb : s.busy with
    | true => rw [hb] at ht; exact ht
    | false => rw [hb] at ht; exact ht
theorem later {l l' : List Arr} (hg : GoodA l) (hg' : GoodA l') {rate : Int} (hr : 1 ≤ rate ∧ rate ≤ 1000) {D : List Arr} {i : Nat} {a : Arr} (ha : l[i]? = some a) (ha' : l'[i]? = some a) {E : Int} (hE : 0 ≤ E) (hD : ∀ a ∈ D, E ≤ a.at_) :
    ∀ (k : Nat) (s s' : QS), muQ s ≤ k → QInv l s → SysQ l s → QInv l' s' → SysQ l' s' → Cpl D i s s' → s.out[i]? = some (-1) → (runQ l rate s)[i]? = some E → (runQ l' rate s')[i]? = some E
  | k, s, s', hk, hq, hsy, hq', hsy', hc, ho, hv => by
    have hrun := runQ_eq l rate s
    have hrun' := runQ_eq l' rate s'
    cases ht : timeQ s with
    | none =>
      have : roundQ l rate s = .done s.out := by unfold roundQ; rw [ht]
      rw [hrun, this] at hv
      have hv : s.out[i]? = some E := hv
      rw [ho] at hv
      cases hv
      omega
    | some t =>
      have hrd : roundQ l rate s = .next (stepQ l rate t s) := by unfold roundQ; rw [ht]
      rw [hrun, hrd] at hv
      have hv : (runQ l rate (stepQ l rate t s))[i]? = some E := hv
      have hm := mu_step (l := l) (rate := rate) ht
      obtain ⟨k, rfl⟩ : ∃ q, k = q + 1 := ⟨k - 1, by omega⟩
      have gone : ∀ {l : List Arr} {s : QS}, QInv l s → SysQ l s → l[i]? = some a → s.out[i]? = some (-1) → (s.busy = true ∧ t = s.fin) ∧ a.e.ticket = s.now.ticket → (stepQ l rate t s).out[i]? = some t ∧ Gone l i (stepQ l rate t s) := by
        intro l s hq hsy ha ho hmk
        constructor
        · rw [out_step]
          unfold endQ
          rw [if_pos hmk.1]
          simp only
          rw [markQ_at, ha, ho]
          simp only
          rw [if_pos hmk.2]
        · intro b hb x hx hxt
          rw [ha] at hb
          have hbe := Option.some.inj hb
          have hx2 := all_step rate t x hx
          unfold endQ at hx2
          rw [if_pos hmk.1] at hx2
          have hd := hsy.dis
          unfold allQ at hd hx2
          simp only [hmk.1.1, if_true, Bool.false_eq_true, if_false, List.nil_append] at hd hx2
          rw [← hbe, hmk.2] at hxt
          rcases List.mem_append.1 hx2 with h | h
          · exact (List.pairwise_append.1 hd).2.2 x h s.now (by simp) hxt
          · have hd2 := (List.pairwise_append.1 hd).2.1
            exact (List.pairwise_cons.1 (show (s.now :: s.co.map Arr.e).Pairwise _ from hd2)).1 x h hxt.symm
      by_cases hmk : (s.busy = true ∧ t = s.fin) ∧ a.e.ticket = s.now.ticket
      · obtain ⟨g1, g2⟩ := gone hq hsy ha ho hmk
        rw [gone_run ha _ g2 g1] at hv
        have hEt := Option.some.inj hv
        have ht' := hc.time ht (fun b hb => .inr ⟨hmk.1.1, hmk.1.2.symm, by have := hD b hb; omega⟩)
        have hrd' : roundQ l' rate s' = .next (stepQ l' rate t s') := by unfold roundQ; rw [ht']
        rw [hrun', hrd']
        show (runQ l' rate (stepQ l' rate t s'))[i]? = some E
        obtain ⟨g3, g4⟩ := gone hq' hsy' ha' (by rw [hc.out]; exact ho) ⟨⟨by rw [hc.busy]; exact hmk.1.1, by rw [hc.fin]; exact hmk.1.2⟩, by rw [hc.now]; exact hmk.2⟩
        rw [gone_run ha' _ g4 g3, hEt]
      · have hout : (stepQ l rate t s).out[i]? = some (-1) := by
          rw [out_step]
          unfold endQ
          split
          · rename_i hb
            simp only
            rw [markQ_at, ha, ho]
            simp only
            rw [if_neg fun h => hmk ⟨hb, h⟩]
          · exact ho
        have hlt : t < E := by
          rcases late hg hr t i _ _ (Nat.le_refl _) (hq.step hg hr ht) (hsy.step rate t) (after_step hg hr hq ht) hout E hv with h | h
          · omega
          · exact h
        have ht' := hc.time ht (fun b hb => .inl (by have := hD b hb; omega))
        have hrd' : roundQ l' rate s' = .next (stepQ l' rate t s') := by unfold roundQ; rw [ht']
        rw [hrun', hrd']
        exact later hg hg' hr ha ha' hE hD k _ _ (by omega) (hq.step hg hr ht) (hsy.step rate t) (hq'.step hg' hr ht') (hsy'.step rate t) (hc.step (by rw [ha, ha']) (fun b hb => by have := hD b hb; omega) rate) hout hv
theorem GoodA.sub {l l' : List Arr} (h : GoodA l) (s : l'.Sublist l) : GoodA l' :=
  ⟨Nat.le_trans s.length_le h.len, fun x hx => h.val x (s.subset hx), h.srt.sublist s, h.dis.sublist s⟩
theorem serve_later {l : List Arr} (hg : GoodA l) {rate : Int} (hr : 1 ≤ rate ∧ rate ≤ 1000) {i k : Nat} (hik : i < k) (hkl : k ≤ l.length) {E : Int} (hE : 0 ≤ E) (hi : (serveQ l rate)[i]? = some E) (hD : ∀ a ∈ l.drop k, E ≤ a.at_) : (serveQ (l.take k) rate)[i]? = some E := by
  have hil : i < l.length := by omega
  have ha : l[i]? = some l[i] := List.getElem?_eq_getElem hil
  have ha' : (l.take k)[i]? = some l[i] := by rw [List.getElem?_take_of_lt hik]; exact ha
  have hg' := hg.sub (List.take_sublist k l)
  have hlk : (l.take k).length = k := by simp; omega
  refine later hg hg' hr ha ha' hE hD _ (startQ l) (startQ (l.take k)) (Nat.le_refl _) QInv.start (SysQ.start hg) QInv.start (SysQ.start hg') ⟨by simp [startQ], rfl, rfl, rfl, rfl, ?_⟩ ?_ hi
  · simp only [startQ, hlk]
    rw [List.getElem?_replicate_of_lt hik, List.getElem?_replicate_of_lt hil]
  · simp only [startQ]
    rw [List.getElem?_replicate_of_lt hil]
theorem law6 (l : List Arr) (rate m : Int) (hm : 0 ≤ m ∧ m ≤ 255) : Runs C 6 [.sl 5 (l.map Arr.enc), tI rate, .int .u8 m] [.bool true] := by
  refine Runs.of (fun n => e6 n _ _ _) ?_
  have hgt := s11 (l.map Arr.enc)
  rw [List.length_map] at hgt
  cases hgr : great l.length with
  | true =>
    rw [hgr] at hgt
    refine (hgt.and s12).mono fun n h => ?_
    simp only [h.1, h.2, vv, reduceCtorEq, Nat.reduceAdd, Nat.reduceEqDiff, J6_4]
  | false =>
    rw [hgr] at hgt
    have h70 := big_great hgr
    by_cases h0 : l.length = 0
    · refine (hgt.and s12).mono fun n h => ?_
      simp only [h.1, h.2, vv, reduceCtorEq, Nat.reduceAdd, Nat.reduceEqDiff, J6_4, h0, Int.natCast_zero, beq_self_eq_true]
    have h0' : ((l.length : Int) == 0) = false := by rw [beq_eq_false_iff_ne]; omega
    have h13 := s13 l rate (by omega)
    by_cases hc : checkR l rate = 0
    · obtain ⟨hr, hg⟩ := checkR_zero.1 hc
      have hs : servR l rate = (serveQ l rate, 0) := by unfold servR; rw [if_neg (by simp [hc])]
      rw [hs] at h13
      have hlen := serve_len hg hr
      have hwm : w64 m = m := w64_id (by omega) (by omega)
      obtain ⟨i, hi⟩ : ∃ i : Nat, i = m.toNat % l.length := ⟨_, rfl⟩
      have hil : i < l.length := by rw [hi]; exact Nat.mod_lt _ (by omega)
      have htm : Int.tmod m (l.length : Int) = (i : Int) := by
        rw [Int.tmod_eq_emod_of_nonneg hm.1, hi, Int.natCast_emod, Int.toNat_of_nonneg hm.1]
      have hil2 : i < (serveQ l rate).length := by rw [hlen]; exact hil
      obtain ⟨E, hv⟩ : ∃ E, (serveQ l rate)[i]? = some E := ⟨_, List.getElem?_eq_getElem hil2⟩
      refine Ev.rw (T' := ?TT) (hgt.and (h13.and s12)) (fun k h => ?g1) ?g2
      case g1 =>
        obtain ⟨h1, h2, h3⟩ := h
        simp only [h1, h2, h3, vv, reduceCtorEq, Nat.reduceAdd, Nat.reduceEqDiff, J6_4, J6_3, h0', bne_self_eq_false, hlen, hwm, htm, (show ¬ (l.length : Int) = 0 from fun h => h0 (by omega)), hv, encI]
        rfl
      case g2 =>
        by_cases hE0 : E < 0
        · refine Ev.of fun n => ?_
          simp only [hE0, vv, reduceCtorEq, Nat.reduceAdd, Nat.reduceEqDiff]
        · simp only [hE0, vv, reduceCtorEq, Nat.reduceAdd, Nat.reduceEqDiff, w64_succ (show i < 4611686018427387904 by omega)]
          refine loop_overQ (fun r => [Tree.bool r]) (l.drop (i + 1)) (fun j (_ : Unit) => (([.t (tI ((i + 1 + j : Nat) : Int))], []) : List AV × Heap)) (fun _ _ x => if x.at_ < E then .next () else .done true) (fun _ => true) (fun j _ => True) () rfl trivial (r := true) ?_
            (fun j s x hx hI => ?_) (fun _ _ _ _ _ _ _ => trivial) (fun s hI => ?_)
          · have : ∀ (c : List Arr) (j : Nat), runL (fun _ (_ : Unit) (x : Arr) => if x.at_ < E then Rd.next () else .done true) (fun _ => true) j c () = true := by
              intro c
              induction c with
              | nil => intro j; rfl
              | cons x c ih =>
                intro j
                simp only [runL]
                split
                · rename_i s hs
                  exact ih _
                · rename_i r hs
                  split at hs
                  · cases hs
                  · cases hs; rfl
            exact this _ 0
          · rw [List.getElem?_drop] at hx
            have hk := lt_of_some hx
            by_cases hlt : x.at_ < E
            · refine Ev.of fun n again => ?_
              rw [if_pos hlt]
              simp only [L6_2, J6_1, vv, reduceCtorEq, Nat.reduceAdd, Nat.reduceEqDiff, hwm, htm, hx, hv, encI, Arr.enc, hlen, (show ((i + 1 + j : Nat) : Int) < (l.length : Int) by omega), hlt, w64_succ (show i + 1 + j < 4611686018427387904 by omega), Rd.go_next]
              rfl
            · rw [if_neg hlt]
              have hkl : ∀ a ∈ l.drop (i + 1 + j), E ≤ a.at_ := by
                intro a ha
                obtain ⟨q, hq⟩ := List.mem_iff_getElem?.1 ha
                rw [List.getElem?_drop] at hq
                have hql := lt_of_some hq
                rcases Nat.eq_zero_or_pos q with rfl | hq0
                · rw [Nat.add_zero, hx] at hq
                  cases hq
                  omega
                · have := List.pairwise_iff_getElem.1 hg.srt (i + 1 + j) (i + 1 + j + q) hk hql (by omega)
                  rw [List.getElem?_eq_getElem hk] at hx
                  rw [List.getElem?_eq_getElem hql] at hq
                  rw [Option.some.inj hx, Option.some.inj hq] at this
                  omega
              have hsl := serve_later hg hr (show i < i + 1 + j by omega) (by omega) (by omega) hv hkl
              have hg2 := hg.sub (List.take_sublist (i + 1 + j) l)
              have hs2 : servR (l.take (i + 1 + j)) rate = (serveQ (l.take (i + 1 + j)) rate, 0) := by unfold servR; rw [if_neg (by simp [checkR_zero.2 ⟨hr, hg2⟩])]
              have hlen2 := serve_len hg2 hr
              have hlt2 : (l.take (i + 1 + j)).length = i + 1 + j := by simp; omega
              have k13 := s13 (l.take (i + 1 + j)) rate (by omega)
              rw [hs2] at k13
              have e1 : List.take (i + 1 + j) (l.map Arr.enc) = (l.take (i + 1 + j)).map Arr.enc := by rw [List.map_take]
              refine (k13.and s12).mono fun n h again => ?_
              obtain ⟨h1, h2⟩ := h
              simp only [L6_2, J6_1, vv, reduceCtorEq, Nat.reduceAdd, Nat.reduceEqDiff, hwm, htm, hx, hv, encI, Arr.enc, hlen, (show ((i + 1 + j : Nat) : Int) < (l.length : Int) by omega), (show ((i + 1 + j : Nat) : Int) ≤ (l.length : Int) by omega), hlt, e1, h1, hlen2, hlt2, hsl, beq_self_eq_true, h2, Rd.go_done]
          · have hjl : i + 1 + (l.drop (i + 1)).length = l.length := by simp; omega
            have e1 : List.take l.length (l.map Arr.enc) = l.map Arr.enc := List.take_of_length_le (by simp)
            rw [hjl]
            refine (h13.and s12).mono fun n h again => ?_
            obtain ⟨h1, h2⟩ := h
            simp only [L6_2, J6_1, vv, reduceCtorEq, Nat.reduceAdd, Nat.reduceEqDiff, hwm, htm, hv, encI, hlen, Int.lt_irrefl, (show (l.length : Int) ≤ (l.length : Int) by omega), e1, h1, beq_self_eq_true, h2]
    · have hs : servR l rate = ([], checkR l rate) := by unfold servR; rw [if_pos hc]
      rw [hs] at h13
      have hne : (checkR l rate != 0) = true := by simp [hc]
      refine (hgt.and (h13.and s12)).mono fun n h => ?_
      obtain ⟨h1, h2, h3⟩ := h
      simp only [h1, h2, h3, vv, reduceCtorEq, Nat.reduceAdd, Nat.reduceEqDiff, J6_4, J6_3, h0', hne, List.map_nil, Int.natCast_zero, beq_self_eq_true]
end Ab
