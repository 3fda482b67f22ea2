/- Parts of the proof: see the last text. -/
import Derived.Test.YtblkfmemhpjbgaaQuO
set_option linter.unusedVariables false
set_option linter.unusedSimpArgs false
namespace Ab
open Go


/-- One transmission ends at a time: what a round does to the place of an entry. -/
theorem out_step (l : List Arr) (rate t : Int) (s : QS) : (stepQ l rate t s).out = (endQ l t s).out := by
  have h1 : ∀ s, (begQ rate t s).out = s.out := fun s => by unfold begQ; split; rfl; split <;> rfl
  have h2 : ∀ s, (preQ t s).out = s.out := fun s => by unfold preQ; split; (split <;> rfl); rfl
  unfold stepQ
  rw [h1, h2]
  rfl
/-- The entry at place i is not among those that are still to be sent. -/
def Gone (l : List Arr) (i : Nat) (s : QS) : Prop := ∀ a, l[i]? = some a → ∀ x ∈ allQ s, x.ticket ≠ a.e.ticket
theorem all_step {l : List Arr} {s : QS} (rate t : Int) (x : Entry) (h : x ∈ allQ (stepQ l rate t s)) : x ∈ allQ (endQ l t s) := by
  unfold stepQ at h
  have hb : ∀ (s : QS) (x : Entry), x ∈ allQ (begQ rate t s) → x ∈ allQ s := fun s x hx => by
    unfold begQ at hx
    split at hx
    · exact hx
    · rename_i hb
      split at hx
      · exact hx
      · rename_i y r hw
        simp only [allQ, hw, hb, if_true] at hx ⊢
        simp at hx ⊢
        rcases hx with h | h | h
        · exact .inr (.inl h)
        · exact .inl h
        · exact .inr (.inr h)
  have hp : ∀ (s : QS) (x : Entry), x ∈ allQ (preQ t s) → x ∈ allQ s := fun s x hx => by
    unfold preQ at hx
    split at hx
    · rename_i y r hw
      split at hx
      · rename_i hb
        simp only [allQ, Bool.false_eq_true, if_false, List.nil_append, List.mem_append, hb.1, if_true] at hx ⊢
        rcases hx with h | h
        · rcases (insB_mem _ _ _ _).1 (List.mem_filter.1 h).1 with rfl | h
          · simp
          · exact .inl h
        · exact .inr (.inr h)
      · exact hx
    · exact hx
  have he : ∀ (s : QS) (x : Entry), x ∈ allQ (expQ t s) → x ∈ allQ s := fun s x hx => by
    simp only [allQ, expQ, List.mem_append] at hx ⊢
    rcases hx with h | h
    · exact .inl (List.mem_filter.1 h).1
    · exact .inr h
  have ht : ∀ (s : QS) (x : Entry), x ∈ allQ (takeQ t s) → x ∈ allQ s := fun s x hx => by
    simp only [allQ, takeQ, List.mem_append, List.mem_map] at hx ⊢
    rcases hx with h | h | ⟨a, h, rfl⟩
    · rcases (insF_mem _ _ _).1 h with h | ⟨a, ha, rfl⟩
      · exact .inl h
      · exact .inr (.inr ⟨a, (List.takeWhile_sublist _).subset ha, rfl⟩)
    · exact .inr (.inl h)
    · exact .inr (.inr ⟨a, (List.dropWhile_sublist _).subset h, rfl⟩)
  exact ht _ _ (he _ _ (hp _ _ (hb _ _ h)))
theorem markQ_at (l : List Arr) (k t : Int) (o : List Int) (i : Nat) : (markQ l k t o)[i]? = match l[i]?, o[i]? with
    | some a, some v => some (if a.e.ticket = k then t else v)
    | _, _ => none := by
  unfold markQ
  rw [List.getElem?_zipWith]
  cases l[i]? <;> cases o[i]? <;> rfl
theorem gone_run {l : List Arr} {rate : Int} {i : Nat} {a : Arr} (ha : l[i]? = some a) {v : Int} (s : QS) (hg : Gone l i s) (hv : s.out[i]? = some v) : (runQ l rate s)[i]? = some v := by
  refine runQ_ind (fun s => Gone l i s ∧ s.out[i]? = some v) (fun o => o[i]? = some v) (fun s t h ht => ?_) (fun s h _ => h.2) _ s (Nat.le_refl _) ⟨hg, hv⟩
  obtain ⟨h1, h2⟩ := h
  have hend : Gone l i (endQ l t s) ∧ (endQ l t s).out[i]? = some v := by
    unfold endQ
    split
    · rename_i hb
      refine ⟨fun b hb' x hx => h1 b hb' x ?_, ?_⟩
      · simp only [allQ, Bool.false_eq_true, if_false, List.nil_append, List.mem_append] at hx ⊢
        rcases hx with h | h
        · exact .inl h
        · exact .inr (.inr h)
      · simp only
        rw [markQ_at, ha, h2]
        have := h1 a ha s.now (by simp [allQ, hb.1])
        simp only
        rw [if_neg (fun h => this h.symm)]
    · exact ⟨h1, h2⟩
  refine ⟨fun b hb x hx => hend.1 b hb x (all_step rate t x hx), ?_⟩
  rw [out_step]
  exact hend.2
/-- What is sent later than T. -/
structure After (T : Int) (s : QS) : Prop where
  fin : s.busy = true → T < s.fin
  co : ∀ a ∈ s.co, T < a.at_
theorem time_after {T t : Int} {s : QS} (h : After T s) (ht : timeQ s = some t) : T < t := by
  unfold timeQ at ht
  split at ht
  · rename_i hb hc
    cases ht
    exact h.fin hb
  · rename_i a r hb hc
    cases ht
    have h1 := h.fin hb
    have h2 := h.co a (by rw [hc]; simp)
    split <;> omega
  · rename_i a r hb hc
    cases ht
    exact h.co a (by rw [hc]; simp)
  · cases ht
theorem time_le {t : Int} {s : QS} (hs : s.co.Pairwise fun a b => a.at_ ≤ b.at_) (ht : timeQ s = some t) : (s.busy = true → t ≤ s.fin) ∧ ∀ a ∈ s.co, t ≤ a.at_ := by
  have hh : ∀ a r, s.co = a :: r → ∀ b ∈ s.co, a.at_ ≤ b.at_ := fun a r hc b hb => by
    rw [hc] at hs hb
    rcases List.mem_cons.1 hb with rfl | hb
    · omega
    · exact (List.pairwise_cons.1 hs).1 b hb
  unfold timeQ at ht
  split at ht
  · rename_i hb hc
    cases ht
    exact ⟨fun _ => Int.le_refl _, by rw [hc]; simp⟩
  · rename_i a r hb hc
    cases ht
    refine ⟨fun _ => (by split <;> omega), fun b hb => ?_⟩
    have := hh a r hc b hb
    split <;> omega
  · rename_i a r hb hc
    cases ht
    exact ⟨fun h => (by rw [hb] at h; cases h), hh a r hc⟩
  · cases ht
/-- Behind a round, all is later. -/
theorem after_step {l : List Arr} (hg : GoodA l) {rate : Int} (hr : 1 ≤ rate ∧ rate ≤ 1000) {s : QS} (hq : QInv l s) {t : Int} (ht : timeQ s = some t) : After t (stepQ l rate t s) := by
  have hcs : s.co.Pairwise fun a b => a.at_ ≤ b.at_ := by rw [hq.co]; exact hg.srt.sublist (List.drop_sublist _ _)
  obtain ⟨h1, h2⟩ := time_le hcs ht
  have hm := (((hq.mid.end t).take hg t).exp t).pre t
  have e1 : (endQ l t s).co = s.co := by unfold endQ; split <;> rfl
  have hpc : ∀ z : QS, (preQ t z).co = z.co := fun z => by unfold preQ; split; (split <;> rfl); rfl
  have hbc : ∀ z : QS, (begQ rate t z).co = z.co := fun z => by unfold begQ; split; rfl; split <;> rfl
  have hco : (stepQ l rate t s).co = s.co.dropWhile fun a => decide (a.at_ = t) := by
    unfold stepQ
    rw [hbc, hpc]
    show (endQ l t s).co.dropWhile _ = _
    rw [e1]
  constructor
  · intro hb
    unfold stepQ at hb ⊢
    generalize hz : preQ t (expQ t (takeQ t (endQ l t s))) = z at hb hm ⊢
    unfold begQ at hb ⊢
    by_cases hzb : z.busy = true
    · rw [if_pos hzb] at hb ⊢
      rw [← hz] at hzb ⊢
      have hpb : (endQ l t s).busy = true ∧ (preQ t (expQ t (takeQ t (endQ l t s)))).fin = (endQ l t s).fin := by
        unfold preQ at hzb ⊢
        split at hzb
        · split at hzb
          · cases hzb
          · rename_i hn
            rw [if_neg hn]
            exact ⟨hzb, rfl⟩
        · exact ⟨hzb, rfl⟩
      rw [hpb.2]
      have hbe := hpb.1
      unfold endQ at hbe ⊢
      split at hbe
      · cases hbe
      · rename_i hn
        rw [if_neg hn]
        have := h1 hbe
        have : t ≠ s.fin := fun h => hn ⟨hbe, h⟩
        omega
    · rw [if_neg hzb] at hb ⊢
      split
      · rename_i hw
        rw [hw] at hb
        exact absurd hb hzb
      · rename_i x r hw
        have := dur_bd hr (hm.wv x (by rw [hw]; simp))
        simp only
        omega
  · intro a ha
    rw [hco] at ha
    have hsub : a ∈ s.co := (List.dropWhile_sublist _).subset ha
    have hle := h2 a hsub
    -- the first one that is left is later, all others too
    cases hd : s.co.dropWhile fun a => decide (a.at_ = t) with
    | nil => rw [hd] at ha; simp at ha
    | cons b r =>
      have hbt : ¬ b.at_ = t := by
        have h3 := List.head_dropWhile_not (fun a : Arr => decide (a.at_ = t)) (l := s.co) (by rw [hd]; simp)
        simp only [hd, List.head_cons, decide_eq_false_iff_not] at h3
        exact h3
      have hbm : b ∈ s.co := (List.dropWhile_sublist _).subset (by rw [hd]; simp)
      have hbl := h2 b hbm
      have hps := hcs.sublist (List.dropWhile_sublist (fun a : Arr => decide (a.at_ = t)))
      rw [hd] at ha hps
      rcases List.mem_cons.1 ha with rfl | ha
      · omega
      · have := (List.pairwise_cons.1 hps).1 a ha
        omega
/-- What is not marked yet is marked later than T, or not at all. -/
theorem late {l : List Arr} (hg : GoodA l) {rate : Int} (hr : 1 ≤ rate ∧ rate ≤ 1000) (T : Int) (i : Nat) : ∀ (k : Nat) (s : QS), muQ s ≤ k → QInv l s → SysQ l s → After T s → s.out[i]? = some (-1) → ∀ v, (runQ l rate s)[i]? = some v → v = -1 ∨ T < v
  | k, s, hk, hq, hsy, haf, ho, v, hv => by
    rw [runQ_eq] at hv
    cases ht : timeQ s with
    | none =>
      have : roundQ l rate s = .done s.out := by unfold roundQ; rw [ht]
      rw [this] at hv
      have hv : s.out[i]? = some v := hv
      rw [ho] at hv
      cases hv
      exact .inl rfl
    | some t =>
      have hrd : roundQ l rate s = .next (stepQ l rate t s) := by unfold roundQ; rw [ht]
      rw [hrd] at hv
      have hv : (runQ l rate (stepQ l rate t s))[i]? = some v := hv
      have hm := mu_step (l := l) (rate := rate) ht
      obtain ⟨k, rfl⟩ : ∃ q, k = q + 1 := ⟨k - 1, by omega⟩
      have hTt := time_after haf ht
      have haf2 := after_step hg hr hq ht
      have haf3 : After T (stepQ l rate t s) := ⟨fun hb => by have := haf2.fin hb; omega, fun a ha => by have := haf2.co a ha; omega⟩
      have hil : i < l.length := by have := lt_of_some ho; rw [hq.out] at this; exact this
      have ha : l[i]? = some l[i] := List.getElem?_eq_getElem hil
      by_cases hmk : (s.busy = true ∧ t = s.fin) ∧ (l[i]).e.ticket = s.now.ticket
      · -- marked now
        have hnow : ∃ a ∈ l, a.e = s.now := hsy.mem s.now (by simp [allQ, hmk.1.1])
        have hout : (stepQ l rate t s).out[i]? = some t := by
          rw [out_step]
          unfold endQ
          rw [if_pos hmk.1]
          simp only
          rw [markQ_at, ha, ho]
          simp only
          rw [if_pos hmk.2]
        have hgone : Gone l i (stepQ l rate t s) := by
          intro b hb x hx hxt
          rw [ha] at hb
          have hbe := Option.some.inj hb
          have hx2 := all_step rate t x hx
          unfold endQ at hx2
          rw [if_pos hmk.1] at hx2
          have hd := hsy.dis
          unfold allQ at hd hx2
          simp only [hmk.1.1, if_true, Bool.false_eq_true, if_false, List.nil_append] at hd hx2
          rw [← hbe, hmk.2] at hxt
          rcases List.mem_append.1 hx2 with h | h
          · exact (List.pairwise_append.1 hd).2.2 x h s.now (by simp) hxt
          · have hd2 := (List.pairwise_append.1 hd).2.1
            exact (List.pairwise_cons.1 (show (s.now :: s.co.map Arr.e).Pairwise _ from hd2)).1 x h hxt.symm
        rw [gone_run ha _ hgone hout] at hv
        cases hv
        exact .inr hTt
      · have hout : (stepQ l rate t s).out[i]? = some (-1) := by
          rw [out_step]
          unfold endQ
          split
          · rename_i hb
            simp only
            rw [markQ_at, ha, ho]
            simp only
            rw [if_neg fun h => hmk ⟨hb, h⟩]
          · exact ho
        exact late hg hr T i k _ (by omega) (hq.step hg hr ht) (hsy.step rate t) haf3 hout v hv

/-! ### later arrivals -/
structure Cpl (D : List Arr) (i : Nat) (s s' : QS) : Prop where
  co : s.co = s'.co ++ D
  wait : s'.wait = s.wait
  now : s'.now = s.now
  fin : s'.fin = s.fin
  busy : s'.busy = s.busy
  out : s'.out[i]? = s.out[i]?
theorem tw_app {α : Type} {p : α → Bool} : ∀ {A D : List α}, (∀ x ∈ D, p x = false) → (A ++ D).takeWhile p = A.takeWhile p ∧ (A ++ D).dropWhile p = A.dropWhile p ++ D
  | [], D, h => by
    cases D with
    | nil => exact ⟨rfl, rfl⟩
    | cons x D => simp [h x (by simp)]
  | a :: A, D, h => by
    obtain ⟨h1, h2⟩ := tw_app (A := A) h
    simp only [List.cons_append, List.takeWhile_cons, List.dropWhile_cons, h1, h2]
    split <;> simp
theorem Cpl.end {D : List Arr} {i : Nat} {l l' : List Arr} (hl : l'[i]? = l[i]?) {s s' : QS} (h : Cpl D i s s') (t : Int) : Cpl D i (endQ l t s) (endQ l' t s') := by
  unfold endQ
  rw [h.busy, h.fin]
  split
  · refine ⟨h.co, h.wait, h.now, rfl, rfl, ?_⟩
    simp only
    rw [markQ_at, markQ_at, hl, h.out, h.now]
  · exact h
theorem Cpl.take {D : List Arr} {i : Nat} {s s' : QS} (h : Cpl D i s s') {t : Int} (hD : ∀ a ∈ D, a.at_ ≠ t) : Cpl D i (takeQ t s) (takeQ t s') := by
  obtain ⟨h1, h2⟩ := tw_app (p := fun a : Arr => decide (a.at_ = t)) (A := s'.co) (D := D) fun x hx => by simpa using hD x hx
  refine ⟨?_, ?_, h.now, h.fin, h.busy, h.out⟩
  · simp only [takeQ, h.co, h2]
  · simp only [takeQ, h.co, h1, h.wait]
theorem Cpl.exp {D : List Arr} {i : Nat} {s s' : QS} (h : Cpl D i s s') (t : Int) : Cpl D i (expQ t s) (expQ t s') := ⟨h.co, by simp only [expQ, h.wait], h.now, h.fin, h.busy, h.out⟩
theorem Cpl.pre {D : List Arr} {i : Nat} {s s' : QS} (h : Cpl D i s s') (t : Int) : Cpl D i (preQ t s) (preQ t s') := by
  unfold preQ
  rw [h.wait, h.busy, h.now]
  cases hw : s.wait with
  | nil => exact h
  | cons x r =>
    simp only
    split
    · exact ⟨h.co, rfl, rfl, h.fin, rfl, h.out⟩
    · exact h
theorem Cpl.beg {D : List Arr} {i : Nat} {s s' : QS} (h : Cpl D i s s') (rate t : Int) : Cpl D i (begQ rate t s) (begQ rate t s') := by
  unfold begQ
  rw [h.wait, h.busy]
  split
  · exact h
  · cases hw : s.wait with
    | nil => exact h
    | cons x r => exact ⟨h.co, rfl, rfl, rfl, rfl, h.out⟩
theorem Cpl.step {D : List Arr} {i : Nat} {l l' : List Arr} (hl : l'[i]? = l[i]?) {s s' : QS} (h : Cpl D i s s') {t : Int} (hD : ∀ a ∈ D, a.at_ ≠ t) (rate : Int) : Cpl D i (stepQ l rate t s) (stepQ l' rate t s') :=
  ((((h.end hl t).take hD).exp t).pre t).beg rate t
theorem Cpl.time {D : List Arr} {i : Nat} {s s' : QS} (h : Cpl D i s s') {t : Int} (ht : timeQ s = some t) (hD : ∀ a ∈ D, t < a.at_ ∨ s.busy = true ∧ s.fin = t ∧ t ≤ a.at_) : timeQ s' = some t := by
  unfold timeQ at ht ⊢
  rw [h.busy, h.fin]
  have hco := h.co
  cases hc' : s'.co with
  | nil =>
    rw [hc', List.nil_append] at hco
    cases hb : s.busy with
    | true =>
      rw [hb] at ht
      cases hD' : D with
      | nil => rw [hco, hD'] at ht; exact ht
      | cons a D2 =>
        rw [hco, hD'] at ht
        have h1 := hD a (by rw [hD']; simp)
        simp only [Option.some.injEq] at ht
        simp only [Option.some.injEq]
        split at ht <;> omega
    | false =>
      rw [hb] at ht
      cases hD' : D with
      | nil => rw [hco, hD'] at ht; cases ht
      | cons a D2 =>
        rw [hco, hD'] at ht
        have h1 := hD a (by rw [hD']; simp)
        simp only [Option.some.injEq] at ht
        rcases h1 with h1 | h1
        · omega
        · rw [hb] at h1; cases h1.1
  | cons a r =>
    rw [hco, hc'] at ht
    cases hb : s.busy with
    | true => rw [hb] at ht; exact ht
    | false => rw [hb] at ht; exact ht
theorem later {l l' : List Arr} (hg : GoodA l) (hg' : GoodA l') {rate : Int} (hr : 1 ≤ rate ∧ rate ≤ 1000) {D : List Arr} {i : Nat} {a : Arr} (ha : l[i]? = some a) (ha' : l'[i]? = some a) {E : Int} (hE : 0 ≤ E) (hD : ∀ a ∈ D, E ≤ a.at_) :
    ∀ (k : Nat) (s s' : QS), muQ s ≤ k → QInv l s → SysQ l s → QInv l' s' → SysQ l' s' → Cpl D i s s' → s.out[i]? = some (-1) → (runQ l rate s)[i]? = some E → (runQ l' rate s')[i]? = some E
  | k, s, s', hk, hq, hsy, hq', hsy', hc, ho, hv => by
    have hrun := runQ_eq l rate s
    have hrun' := runQ_eq l' rate s'
    cases ht : timeQ s with
    | none =>
      have : roundQ l rate s = .done s.out := by unfold roundQ; rw [ht]
      rw [hrun, this] at hv
      have hv : s.out[i]? = some E := hv
      rw [ho] at hv
      cases hv
      omega
    | some t =>
      have hrd : roundQ l rate s = .next (stepQ l rate t s) := by unfold roundQ; rw [ht]
      rw [hrun, hrd] at hv
      have hv : (runQ l rate (stepQ l rate t s))[i]? = some E := hv
      have hm := mu_step (l := l) (rate := rate) ht
      obtain ⟨k, rfl⟩ : ∃ q, k = q + 1 := ⟨k - 1, by omega⟩
      have gone : ∀ {l : List Arr} {s : QS}, QInv l s → SysQ l s → l[i]? = some a → s.out[i]? = some (-1) → (s.busy = true ∧ t = s.fin) ∧ a.e.ticket = s.now.ticket → (stepQ l rate t s).out[i]? = some t ∧ Gone l i (stepQ l rate t s) := by
        intro l s hq hsy ha ho hmk
        constructor
        · rw [out_step]
          unfold endQ
          rw [if_pos hmk.1]
          simp only
          rw [markQ_at, ha, ho]
          simp only
          rw [if_pos hmk.2]
        · intro b hb x hx hxt
          rw [ha] at hb
          have hbe := Option.some.inj hb
          have hx2 := all_step rate t x hx
          unfold endQ at hx2
          rw [if_pos hmk.1] at hx2
          have hd := hsy.dis
          unfold allQ at hd hx2
          simp only [hmk.1.1, if_true, Bool.false_eq_true, if_false, List.nil_append] at hd hx2
          rw [← hbe, hmk.2] at hxt
          rcases List.mem_append.1 hx2 with h | h
          · exact (List.pairwise_append.1 hd).2.2 x h s.now (by simp) hxt
          · have hd2 := (List.pairwise_append.1 hd).2.1
            exact (List.pairwise_cons.1 (show (s.now :: s.co.map Arr.e).Pairwise _ from hd2)).1 x h hxt.symm
      by_cases hmk : (s.busy = true ∧ t = s.fin) ∧ a.e.ticket = s.now.ticket
      · obtain ⟨g1, g2⟩ := gone hq hsy ha ho hmk
        rw [gone_run ha _ g2 g1] at hv
        have hEt := Option.some.inj hv
        have ht' := hc.time ht (fun b hb => .inr ⟨hmk.1.1, hmk.1.2.symm, by have := hD b hb; omega⟩)
        have hrd' : roundQ l' rate s' = .next (stepQ l' rate t s') := by unfold roundQ; rw [ht']
        rw [hrun', hrd']
        show (runQ l' rate (stepQ l' rate t s'))[i]? = some E
        obtain ⟨g3, g4⟩ := gone hq' hsy' ha' (by rw [hc.out]; exact ho) ⟨⟨by rw [hc.busy]; exact hmk.1.1, by rw [hc.fin]; exact hmk.1.2⟩, by rw [hc.now]; exact hmk.2⟩
        rw [gone_run ha' _ g4 g3, hEt]
      · have hout : (stepQ l rate t s).out[i]? = some (-1) := by
          rw [out_step]
          unfold endQ
          split
          · rename_i hb
            simp only
            rw [markQ_at, ha, ho]
            simp only
            rw [if_neg fun h => hmk ⟨hb, h⟩]
          · exact ho
        have hlt : t < E := by
          rcases late hg hr t i _ _ (Nat.le_refl _) (hq.step hg hr ht) (hsy.step rate t) (after_step hg hr hq ht) hout E hv with h | h
          · omega
          · exact h
        have ht' := hc.time ht (fun b hb => .inl (by have := hD b hb; omega))
        have hrd' : roundQ l' rate s' = .next (stepQ l' rate t s') := by unfold roundQ; rw [ht']
        rw [hrun', hrd']
        exact later hg hg' hr ha ha' hE hD k _ _ (by omega) (hq.step hg hr ht) (hsy.step rate t) (hq'.step hg' hr ht') (hsy'.step rate t) (hc.step (by rw [ha, ha']) (fun b hb => by have := hD b hb; omega) rate) hout hv
theorem GoodA.sub {l l' : List Arr} (h : GoodA l) (s : l'.Sublist l) : GoodA l' :=
  ⟨Nat.le_trans s.length_le h.len, fun x hx => h.val x (s.subset hx), h.srt.sublist s, h.dis.sublist s⟩
theorem serve_later {l : List Arr} (hg : GoodA l) {rate : Int} (hr : 1 ≤ rate ∧ rate ≤ 1000) {i k : Nat} (hik : i < k) (hkl : k ≤ l.length) {E : Int} (hE : 0 ≤ E) (hi : (serveQ l rate)[i]? = some E) (hD : ∀ a ∈ l.drop k, E ≤ a.at_) : (serveQ (l.take k) rate)[i]? = some E := by
  have hil : i < l.length := by omega
  have ha : l[i]? = some l[i] := List.getElem?_eq_getElem hil
  have ha' : (l.take k)[i]? = some l[i] := by rw [List.getElem?_take_of_lt hik]; exact ha
  have hg' := hg.sub (List.take_sublist k l)
  have hlk : (l.take k).length = k := by simp; omega
  refine later hg hg' hr ha ha' hE hD _ (startQ l) (startQ (l.take k)) (Nat.le_refl _) QInv.start (SysQ.start hg) QInv.start (SysQ.start hg') ⟨by simp [startQ], rfl, rfl, rfl, rfl, ?_⟩ ?_ hi
  · simp only [startQ, hlk]
    rw [List.getElem?_replicate_of_lt hik, List.getElem?_replicate_of_lt hil]
  · simp only [startQ]
    rw [List.getElem?_replicate_of_lt hil]
theorem law6 (l : List Arr) (rate m : Int) (hm : 0 ≤ m ∧ m ≤ 255) : Runs C 6 [.sl 5 (l.map Arr.enc), tI rate, .int .u8 m] [.bool true] := by
  refine Runs.of (fun n => e6 n _ _ _) ?_
  have hgt := s11 (l.map Arr.enc)
  rw [List.length_map] at hgt
  cases hgr : great l.length with
  | true =>
    rw [hgr] at hgt
    refine (hgt.and s12).mono fun n h => ?_
    simp only [h.1, h.2, vI_mk, vB_mk, vS_mk, vL_mk, sVer_mk, sOff_mk, sLen_mk, oVer_mk, oEs_mk, cI_mk, cB_mk, cS_mk, cL_mk, cVer_mk, cOff_mk, cLen_mk, gI_zero, gI_succ, gB_zero, gB_succ, gS_zero, gS_succ, gL_zero, gL_succ, okI_zero, okI_succ, okB_zero, okB_succ, okS_zero, okS_succ, okL_zero, okL_succ, isIntT_int, isBoolT_bool, isStrT_str, isSlT_sl, intOf_int, boolOf_bool, strOf_str, slOf_sl, treeOf_t, srVer_sref, srOff_sref, srLen_sref, ver_row, esOf_row, cellOf_box, aI_mk, aB_mk, aS_mk, aL_mk, aggOf_agg, join_eq, List.getD_cons_zero, List.getD_cons_succ, decide_true, decide_false, cnd_true, cnd_false, true_and, and_true, false_and, and_false, Option.bind_some, Option.bind_none, List.length_cons, List.length_nil, List.length_map, List.getElem?_map, Option.map_some, Option.map_none, Int.toNat_natCast, reduceCtorEq, eq_self, if_true, if_false, Nat.zero_add, Nat.reduceAdd, Nat.reduceEqDiff, Int.natCast_nonneg, List.drop_zero, or_true, true_or, or_false, false_or, Bool.not_true, Bool.not_false, Bool.false_eq_true, decide_eq_true_eq, ge_iff_le, gt_iff_lt, J6_4]
  | false =>
    rw [hgr] at hgt
    have h70 := big_great hgr
    by_cases h0 : l.length = 0
    · refine (hgt.and s12).mono fun n h => ?_
      simp only [h.1, h.2, vI_mk, vB_mk, vS_mk, vL_mk, sVer_mk, sOff_mk, sLen_mk, oVer_mk, oEs_mk, cI_mk, cB_mk, cS_mk, cL_mk, cVer_mk, cOff_mk, cLen_mk, gI_zero, gI_succ, gB_zero, gB_succ, gS_zero, gS_succ, gL_zero, gL_succ, okI_zero, okI_succ, okB_zero, okB_succ, okS_zero, okS_succ, okL_zero, okL_succ, isIntT_int, isBoolT_bool, isStrT_str, isSlT_sl, intOf_int, boolOf_bool, strOf_str, slOf_sl, treeOf_t, srVer_sref, srOff_sref, srLen_sref, ver_row, esOf_row, cellOf_box, aI_mk, aB_mk, aS_mk, aL_mk, aggOf_agg, join_eq, List.getD_cons_zero, List.getD_cons_succ, decide_true, decide_false, cnd_true, cnd_false, true_and, and_true, false_and, and_false, Option.bind_some, Option.bind_none, List.length_cons, List.length_nil, List.length_map, List.getElem?_map, Option.map_some, Option.map_none, Int.toNat_natCast, reduceCtorEq, eq_self, if_true, if_false, Nat.zero_add, Nat.reduceAdd, Nat.reduceEqDiff, Int.natCast_nonneg, List.drop_zero, or_true, true_or, or_false, false_or, Bool.not_true, Bool.not_false, Bool.false_eq_true, decide_eq_true_eq, ge_iff_le, gt_iff_lt, J6_4, h0, Int.natCast_zero, beq_self_eq_true]
    have h0' : ((l.length : Int) == 0) = false := by rw [beq_eq_false_iff_ne]; omega
    have h13 := s13 l rate (by omega)
    by_cases hc : checkR l rate = 0
    · obtain ⟨hr, hg⟩ := checkR_zero.1 hc
      have hs : servR l rate = (serveQ l rate, 0) := by unfold servR; rw [if_neg (by simp [hc])]
      rw [hs] at h13
      have hlen := serve_len hg hr
      have hwm : w64 m = m := w64_id (by omega) (by omega)
      obtain ⟨i, hi⟩ : ∃ i : Nat, i = m.toNat % l.length := ⟨_, rfl⟩
      have hil : i < l.length := by rw [hi]; exact Nat.mod_lt _ (by omega)
      have htm : Int.tmod m (l.length : Int) = (i : Int) := by
        rw [Int.tmod_eq_emod_of_nonneg hm.1, hi, Int.natCast_emod, Int.toNat_of_nonneg hm.1]
      have hil2 : i < (serveQ l rate).length := by rw [hlen]; exact hil
      obtain ⟨E, hv⟩ : ∃ E, (serveQ l rate)[i]? = some E := ⟨_, List.getElem?_eq_getElem hil2⟩
      refine Ev.rw (T' := ?TT) (hgt.and (h13.and s12)) (fun k h => ?g1) ?g2
      case g1 =>
        obtain ⟨h1, h2, h3⟩ := h
        simp only [h1, h2, h3, vI_mk, vB_mk, vS_mk, vL_mk, sVer_mk, sOff_mk, sLen_mk, oVer_mk, oEs_mk, cI_mk, cB_mk, cS_mk, cL_mk, cVer_mk, cOff_mk, cLen_mk, gI_zero, gI_succ, gB_zero, gB_succ, gS_zero, gS_succ, gL_zero, gL_succ, okI_zero, okI_succ, okB_zero, okB_succ, okS_zero, okS_succ, okL_zero, okL_succ, isIntT_int, isBoolT_bool, isStrT_str, isSlT_sl, intOf_int, boolOf_bool, strOf_str, slOf_sl, treeOf_t, srVer_sref, srOff_sref, srLen_sref, ver_row, esOf_row, cellOf_box, aI_mk, aB_mk, aS_mk, aL_mk, aggOf_agg, join_eq, List.getD_cons_zero, List.getD_cons_succ, decide_true, decide_false, cnd_true, cnd_false, true_and, and_true, false_and, and_false, Option.bind_some, Option.bind_none, List.length_cons, List.length_nil, List.length_map, List.getElem?_map, Option.map_some, Option.map_none, Int.toNat_natCast, reduceCtorEq, eq_self, if_true, if_false, Nat.zero_add, Nat.reduceAdd, Nat.reduceEqDiff, Int.natCast_nonneg, List.drop_zero, or_true, true_or, or_false, false_or, Bool.not_true, Bool.not_false, Bool.false_eq_true, decide_eq_true_eq, ge_iff_le, gt_iff_lt, J6_4, J6_3, h0', bne_self_eq_false, hlen, hwm, htm, (show ¬ (l.length : Int) = 0 from fun h => h0 (by omega)), hv, encI]
        rfl
      case g2 =>
        by_cases hE0 : E < 0
        · refine Ev.of fun n => ?_
          simp only [hE0, vI_mk, vB_mk, vS_mk, vL_mk, sVer_mk, sOff_mk, sLen_mk, oVer_mk, oEs_mk, cI_mk, cB_mk, cS_mk, cL_mk, cVer_mk, cOff_mk, cLen_mk, gI_zero, gI_succ, gB_zero, gB_succ, gS_zero, gS_succ, gL_zero, gL_succ, okI_zero, okI_succ, okB_zero, okB_succ, okS_zero, okS_succ, okL_zero, okL_succ, isIntT_int, isBoolT_bool, isStrT_str, isSlT_sl, intOf_int, boolOf_bool, strOf_str, slOf_sl, treeOf_t, srVer_sref, srOff_sref, srLen_sref, ver_row, esOf_row, cellOf_box, aI_mk, aB_mk, aS_mk, aL_mk, aggOf_agg, join_eq, List.getD_cons_zero, List.getD_cons_succ, decide_true, decide_false, cnd_true, cnd_false, true_and, and_true, false_and, and_false, Option.bind_some, Option.bind_none, List.length_cons, List.length_nil, List.length_map, List.getElem?_map, Option.map_some, Option.map_none, Int.toNat_natCast, reduceCtorEq, eq_self, if_true, if_false, Nat.zero_add, Nat.reduceAdd, Nat.reduceEqDiff, Int.natCast_nonneg, List.drop_zero, or_true, true_or, or_false, false_or, Bool.not_true, Bool.not_false, Bool.false_eq_true, decide_eq_true_eq, ge_iff_le, gt_iff_lt]
        · simp only [hE0, vI_mk, vB_mk, vS_mk, vL_mk, sVer_mk, sOff_mk, sLen_mk, oVer_mk, oEs_mk, cI_mk, cB_mk, cS_mk, cL_mk, cVer_mk, cOff_mk, cLen_mk, gI_zero, gI_succ, gB_zero, gB_succ, gS_zero, gS_succ, gL_zero, gL_succ, okI_zero, okI_succ, okB_zero, okB_succ, okS_zero, okS_succ, okL_zero, okL_succ, isIntT_int, isBoolT_bool, isStrT_str, isSlT_sl, intOf_int, boolOf_bool, strOf_str, slOf_sl, treeOf_t, srVer_sref, srOff_sref, srLen_sref, ver_row, esOf_row, cellOf_box, aI_mk, aB_mk, aS_mk, aL_mk, aggOf_agg, join_eq, List.getD_cons_zero, List.getD_cons_succ, decide_true, decide_false, cnd_true, cnd_false, true_and, and_true, false_and, and_false, Option.bind_some, Option.bind_none, List.length_cons, List.length_nil, List.length_map, List.getElem?_map, Option.map_some, Option.map_none, Int.toNat_natCast, reduceCtorEq, eq_self, if_true, if_false, Nat.zero_add, Nat.reduceAdd, Nat.reduceEqDiff, Int.natCast_nonneg, List.drop_zero, or_true, true_or, or_false, false_or, Bool.not_true, Bool.not_false, Bool.false_eq_true, decide_eq_true_eq, ge_iff_le, gt_iff_lt, w64_succ (show i < 4611686018427387904 by omega)]
          refine loop_overQ (fun r => [Tree.bool r]) (l.drop (i + 1)) (fun j (_ : Unit) => (([.t (tI ((i + 1 + j : Nat) : Int))], []) : List AV × Heap)) (fun _ _ x => if x.at_ < E then .next () else .done true) (fun _ => true) (fun j _ => True) () rfl trivial (r := true) ?_
            (fun j s x hx hI => ?_) (fun _ _ _ _ _ _ _ => trivial) (fun s hI => ?_)
          · have : ∀ (c : List Arr) (j : Nat), runL (fun _ (_ : Unit) (x : Arr) => if x.at_ < E then Rd.next () else .done true) (fun _ => true) j c () = true := by
              intro c
              induction c with
              | nil => intro j; rfl
              | cons x c ih =>
                intro j
                simp only [runL]
                split
                · rename_i s hs
                  exact ih _
                · rename_i r hs
                  split at hs
                  · cases hs
                  · cases hs; rfl
            exact this _ 0
          · rw [List.getElem?_drop] at hx
            have hk := lt_of_some hx
            by_cases hlt : x.at_ < E
            · refine Ev.of fun n again => ?_
              rw [if_pos hlt]
              simp only [L6_2, J6_1, vI_mk, vB_mk, vS_mk, vL_mk, sVer_mk, sOff_mk, sLen_mk, oVer_mk, oEs_mk, cI_mk, cB_mk, cS_mk, cL_mk, cVer_mk, cOff_mk, cLen_mk, gI_zero, gI_succ, gB_zero, gB_succ, gS_zero, gS_succ, gL_zero, gL_succ, okI_zero, okI_succ, okB_zero, okB_succ, okS_zero, okS_succ, okL_zero, okL_succ, isIntT_int, isBoolT_bool, isStrT_str, isSlT_sl, intOf_int, boolOf_bool, strOf_str, slOf_sl, treeOf_t, srVer_sref, srOff_sref, srLen_sref, ver_row, esOf_row, cellOf_box, aI_mk, aB_mk, aS_mk, aL_mk, aggOf_agg, join_eq, List.getD_cons_zero, List.getD_cons_succ, decide_true, decide_false, cnd_true, cnd_false, true_and, and_true, false_and, and_false, Option.bind_some, Option.bind_none, List.length_cons, List.length_nil, List.length_map, List.getElem?_map, Option.map_some, Option.map_none, Int.toNat_natCast, reduceCtorEq, eq_self, if_true, if_false, Nat.zero_add, Nat.reduceAdd, Nat.reduceEqDiff, Int.natCast_nonneg, List.drop_zero, or_true, true_or, or_false, false_or, Bool.not_true, Bool.not_false, Bool.false_eq_true, decide_eq_true_eq, ge_iff_le, gt_iff_lt, hwm, htm, hx, hv, encI, Arr.enc, hlen, (show ((i + 1 + j : Nat) : Int) < (l.length : Int) by omega), hlt, w64_succ (show i + 1 + j < 4611686018427387904 by omega), Rd.go_next]
              rfl
            · rw [if_neg hlt]
              have hkl : ∀ a ∈ l.drop (i + 1 + j), E ≤ a.at_ := by
                intro a ha
                obtain ⟨q, hq⟩ := List.mem_iff_getElem?.1 ha
                rw [List.getElem?_drop] at hq
                have hql := lt_of_some hq
                rcases Nat.eq_zero_or_pos q with rfl | hq0
                · rw [Nat.add_zero, hx] at hq
                  cases hq
                  omega
                · have := List.pairwise_iff_getElem.1 hg.srt (i + 1 + j) (i + 1 + j + q) hk hql (by omega)
                  rw [List.getElem?_eq_getElem hk] at hx
                  rw [List.getElem?_eq_getElem hql] at hq
                  rw [Option.some.inj hx, Option.some.inj hq] at this
                  omega
              have hsl := serve_later hg hr (show i < i + 1 + j by omega) (by omega) (by omega) hv hkl
              have hg2 := hg.sub (List.take_sublist (i + 1 + j) l)
              have hs2 : servR (l.take (i + 1 + j)) rate = (serveQ (l.take (i + 1 + j)) rate, 0) := by unfold servR; rw [if_neg (by simp [checkR_zero.2 ⟨hr, hg2⟩])]
              have hlen2 := serve_len hg2 hr
              have hlt2 : (l.take (i + 1 + j)).length = i + 1 + j := by simp; omega
              have k13 := s13 (l.take (i + 1 + j)) rate (by omega)
              rw [hs2] at k13
              have e1 : List.take (i + 1 + j) (l.map Arr.enc) = (l.take (i + 1 + j)).map Arr.enc := by rw [List.map_take]
              refine (k13.and s12).mono fun n h again => ?_
              obtain ⟨h1, h2⟩ := h
              simp only [L6_2, J6_1, vI_mk, vB_mk, vS_mk, vL_mk, sVer_mk, sOff_mk, sLen_mk, oVer_mk, oEs_mk, cI_mk, cB_mk, cS_mk, cL_mk, cVer_mk, cOff_mk, cLen_mk, gI_zero, gI_succ, gB_zero, gB_succ, gS_zero, gS_succ, gL_zero, gL_succ, okI_zero, okI_succ, okB_zero, okB_succ, okS_zero, okS_succ, okL_zero, okL_succ, isIntT_int, isBoolT_bool, isStrT_str, isSlT_sl, intOf_int, boolOf_bool, strOf_str, slOf_sl, treeOf_t, srVer_sref, srOff_sref, srLen_sref, ver_row, esOf_row, cellOf_box, aI_mk, aB_mk, aS_mk, aL_mk, aggOf_agg, join_eq, List.getD_cons_zero, List.getD_cons_succ, decide_true, decide_false, cnd_true, cnd_false, true_and, and_true, false_and, and_false, Option.bind_some, Option.bind_none, List.length_cons, List.length_nil, List.length_map, List.getElem?_map, Option.map_some, Option.map_none, Int.toNat_natCast, reduceCtorEq, eq_self, if_true, if_false, Nat.zero_add, Nat.reduceAdd, Nat.reduceEqDiff, Int.natCast_nonneg, List.drop_zero, or_true, true_or, or_false, false_or, Bool.not_true, Bool.not_false, Bool.false_eq_true, decide_eq_true_eq, ge_iff_le, gt_iff_lt, hwm, htm, hx, hv, encI, Arr.enc, hlen, (show ((i + 1 + j : Nat) : Int) < (l.length : Int) by omega), (show ((i + 1 + j : Nat) : Int) ≤ (l.length : Int) by omega), hlt, e1, h1, hlen2, hlt2, hsl, beq_self_eq_true, h2, Rd.go_done]
          · have hjl : i + 1 + (l.drop (i + 1)).length = l.length := by simp; omega
            have e1 : List.take l.length (l.map Arr.enc) = l.map Arr.enc := List.take_of_length_le (by simp)
            rw [hjl]
            refine (h13.and s12).mono fun n h again => ?_
            obtain ⟨h1, h2⟩ := h
            simp only [L6_2, J6_1, vI_mk, vB_mk, vS_mk, vL_mk, sVer_mk, sOff_mk, sLen_mk, oVer_mk, oEs_mk, cI_mk, cB_mk, cS_mk, cL_mk, cVer_mk, cOff_mk, cLen_mk, gI_zero, gI_succ, gB_zero, gB_succ, gS_zero, gS_succ, gL_zero, gL_succ, okI_zero, okI_succ, okB_zero, okB_succ, okS_zero, okS_succ, okL_zero, okL_succ, isIntT_int, isBoolT_bool, isStrT_str, isSlT_sl, intOf_int, boolOf_bool, strOf_str, slOf_sl, treeOf_t, srVer_sref, srOff_sref, srLen_sref, ver_row, esOf_row, cellOf_box, aI_mk, aB_mk, aS_mk, aL_mk, aggOf_agg, join_eq, List.getD_cons_zero, List.getD_cons_succ, decide_true, decide_false, cnd_true, cnd_false, true_and, and_true, false_and, and_false, Option.bind_some, Option.bind_none, List.length_cons, List.length_nil, List.length_map, List.getElem?_map, Option.map_some, Option.map_none, Int.toNat_natCast, reduceCtorEq, eq_self, if_true, if_false, Nat.zero_add, Nat.reduceAdd, Nat.reduceEqDiff, Int.natCast_nonneg, List.drop_zero, or_true, true_or, or_false, false_or, Bool.not_true, Bool.not_false, Bool.false_eq_true, decide_eq_true_eq, ge_iff_le, gt_iff_lt, hwm, htm, hv, encI, hlen, Int.lt_irrefl, (show (l.length : Int) ≤ (l.length : Int) by omega), e1, h1, beq_self_eq_true, h2]
    · have hs : servR l rate = ([], checkR l rate) := by unfold servR; rw [if_pos hc]
      rw [hs] at h13
      have hne : (checkR l rate != 0) = true := by simp [hc]
      refine (hgt.and (h13.and s12)).mono fun n h => ?_
      obtain ⟨h1, h2, h3⟩ := h
      simp only [h1, h2, h3, vI_mk, vB_mk, vS_mk, vL_mk, sVer_mk, sOff_mk, sLen_mk, oVer_mk, oEs_mk, cI_mk, cB_mk, cS_mk, cL_mk, cVer_mk, cOff_mk, cLen_mk, gI_zero, gI_succ, gB_zero, gB_succ, gS_zero, gS_succ, gL_zero, gL_succ, okI_zero, okI_succ, okB_zero, okB_succ, okS_zero, okS_succ, okL_zero, okL_succ, isIntT_int, isBoolT_bool, isStrT_str, isSlT_sl, intOf_int, boolOf_bool, strOf_str, slOf_sl, treeOf_t, srVer_sref, srOff_sref, srLen_sref, ver_row, esOf_row, cellOf_box, aI_mk, aB_mk, aS_mk, aL_mk, aggOf_agg, join_eq, List.getD_cons_zero, List.getD_cons_succ, decide_true, decide_false, cnd_true, cnd_false, true_and, and_true, false_and, and_false, Option.bind_some, Option.bind_none, List.length_cons, List.length_nil, List.length_map, List.getElem?_map, Option.map_some, Option.map_none, Int.toNat_natCast, reduceCtorEq, eq_self, if_true, if_false, Nat.zero_add, Nat.reduceAdd, Nat.reduceEqDiff, Int.natCast_nonneg, List.drop_zero, or_true, true_or, or_false, false_or, Bool.not_true, Bool.not_false, Bool.false_eq_true, decide_eq_true_eq, ge_iff_le, gt_iff_lt, J6_4, J6_3, h0', hne, List.map_nil, Int.natCast_zero, beq_self_eq_true]
end Ab

set_option linter.unusedVariables false
set_option linter.unusedSimpArgs false
namespace Ab
open Go


def isX (a : Arr) : Bool := decide (a.e.prio = 2)
def isE (x : Entry) : Bool := decide (x.prio = 2)
def sel : List Arr → List Int → List Int
  | a :: l, v :: o => if isX a = true then v :: sel l o else sel l o
  | _, _ => []
theorem sel_mark (k t : Int) : ∀ (l : List Arr) (o : List Int), sel l (markQ l k t o) = markQ (l.filter isX) k t (sel l o)
  | [], o => by simp [sel, markQ]
  | a :: l, [] => by simp [sel, markQ]
  | a :: l, v :: o => by
    have ih := sel_mark k t l o
    have e : markQ (a :: l) k t (v :: o) = (if a.e.ticket = k then t else v) :: markQ l k t o := rfl
    rw [e]
    cases ha : isX a with
    | true =>
      rw [List.filter_cons_of_pos ha]
      simp only [sel, ha, if_true, ih]
      rfl
    | false =>
      rw [List.filter_cons_of_neg (by simp [ha])]
      simp only [sel, ha, Bool.false_eq_true, if_false, ih]
theorem sel_mark_other (k t : Int) : ∀ (l : List Arr) (o : List Int), (∀ a ∈ l, isX a = true → a.e.ticket ≠ k) → sel l (markQ l k t o) = sel l o
  | [], o, _ => by simp [sel, markQ]
  | a :: l, [], _ => by simp [sel, markQ]
  | a :: l, v :: o, h => by
    have ih := sel_mark_other k t l o fun b hb => h b (by simp [hb])
    have e : markQ (a :: l) k t (v :: o) = (if a.e.ticket = k then t else v) :: markQ l k t o := rfl
    rw [e]
    cases ha : isX a with
    | true =>
      have := h a (by simp) ha
      simp only [sel, ha, if_true, ih, if_neg this]
    | false =>
      simp only [sel, ha, Bool.false_eq_true, if_false, ih]
theorem sel_rep : ∀ (l : List Arr), sel l (List.replicate l.length (-1)) = List.replicate (l.filter isX).length (-1)
  | [] => rfl
  | a :: l => by
    have ih := sel_rep l
    cases ha : isX a with
    | true =>
      rw [List.filter_cons_of_pos ha]
      simp only [List.length_cons, List.replicate_succ, sel, ha, if_true, ih]
    | false =>
      rw [List.filter_cons_of_neg (by simp [ha])]
      simp only [List.length_cons, List.replicate_succ, sel, ha, Bool.false_eq_true, if_false, ih]
theorem tw_filter {t : Int} (p : Arr → Bool) : ∀ (c : List Arr), (c.Pairwise fun a b => a.at_ ≤ b.at_) → (∀ a ∈ c, t ≤ a.at_) →
    (c.filter p).takeWhile (fun a => decide (a.at_ = t)) = (c.takeWhile fun a => decide (a.at_ = t)).filter p ∧ (c.filter p).dropWhile (fun a => decide (a.at_ = t)) = (c.dropWhile fun a => decide (a.at_ = t)).filter p
  | [], _, _ => ⟨rfl, rfl⟩
  | a :: c, hs, hl => by
    rw [List.pairwise_cons] at hs
    obtain ⟨h1, h2⟩ := tw_filter p c hs.2 fun b hb => hl b (by simp [hb])
    by_cases ha : a.at_ = t
    · cases hp : p a with
      | true =>
        rw [List.filter_cons_of_pos hp]
        simp [List.takeWhile_cons, List.dropWhile_cons, ha, hp, h1, h2]
      | false =>
        rw [List.filter_cons_of_neg (by simp [hp])]
        simp [List.takeWhile_cons, List.dropWhile_cons, ha, hp, h1, h2]
    · have hn : ∀ b ∈ a :: c, ¬ b.at_ = t := fun b hb => by
        have := hl a (by simp)
        rcases List.mem_cons.1 hb with rfl | hb
        · exact ha
        · have := hs.1 b hb; omega
      have e1 : ∀ (q : List Arr), (∀ b ∈ q, ¬ b.at_ = t) → q.takeWhile (fun a => decide (a.at_ = t)) = [] ∧ q.dropWhile (fun a => decide (a.at_ = t)) = q := by
        intro q hq
        cases q with
        | nil => exact ⟨rfl, rfl⟩
        | cons b q => simp [List.takeWhile_cons, List.dropWhile_cons, hq b (by simp)]
      obtain ⟨f1, f2⟩ := e1 (a :: c) hn
      obtain ⟨f3, f4⟩ := e1 ((a :: c).filter p) fun b hb => hn b (List.mem_filter.1 hb).1
      rw [f1, f2, f3, f4]
      exact ⟨rfl, rfl⟩
structure CX (l : List Arr) (s s' : QS) : Prop where
  co : s'.co = s.co.filter isX
  wait : s'.wait = s.wait.filter isE
  busy : s'.busy = true ↔ s.busy = true ∧ s.now.prio = 2
  nf : s'.busy = true → s'.now = s.now ∧ s'.fin = s.fin
  out : s'.out = sel l s.out
theorem CX.end {l : List Arr} {s s' : QS} (h : CX l s s') (hsy : SysQ l s) (hd : l.Pairwise fun a b => a.e.ticket ≠ b.e.ticket) (t : Int) : CX l (endQ l t s) (endQ (l.filter isX) t s') := by
  by_cases hx : s'.busy = true
  · unfold endQ
    obtain ⟨n1, n2⟩ := h.nf hx
    obtain ⟨b1, b2⟩ := h.busy.1 hx
    rw [hx, b1, n2]
    by_cases ht : t = s.fin
    · rw [if_pos ⟨rfl, ht⟩, if_pos ⟨rfl, ht⟩]
      refine ⟨h.co, h.wait, by simp, fun h => (by cases h), ?_⟩
      simp only
      rw [h.out, n1, sel_mark]
    · rw [if_neg (fun h => ht h.2), if_neg (fun h => ht h.2)]
      exact h
  · have e2 : endQ (l.filter isX) t s' = s' := by unfold endQ; rw [if_neg (fun h => hx h.1)]
    rw [e2]
    unfold endQ
    by_cases hb : s.busy = true ∧ t = s.fin
    · rw [if_pos hb]
      refine ⟨h.co, h.wait, by simp [hx], fun h => absurd h hx, ?_⟩
      simp only
      rw [h.out, sel_mark_other]
      intro a ha hax hat
      obtain ⟨b, hb1, hb2⟩ := hsy.mem s.now (by simp [allQ, hb.1])
      have hab : a = b := by
        obtain ⟨i, hi⟩ := List.mem_iff_getElem?.1 ha
        obtain ⟨j, hj⟩ := List.mem_iff_getElem?.1 hb1
        have hil := lt_of_some hi
        have hjl := lt_of_some hj
        rw [List.getElem?_eq_getElem hil] at hi
        rw [List.getElem?_eq_getElem hjl] at hj
        have hi := Option.some.inj hi
        have hj := Option.some.inj hj
        rcases Nat.lt_trichotomy i j with h | h | h
        · have := List.pairwise_iff_getElem.1 hd i j hil hjl h
          rw [hi, hj, hb2] at this
          exact absurd hat this
        · subst h; rw [← hi, ← hj]
        · have := List.pairwise_iff_getElem.1 hd j i hjl hil h
          rw [hi, hj, hb2] at this
          exact absurd hat.symm this
      have : s.now.prio = 2 := by rw [← hb2, ← hab]; simpa [isX] using hax
      exact hx (h.busy.2 ⟨hb.1, this⟩)
    · rw [if_neg hb]
      exact h
theorem CX.take {l : List Arr} {s s' : QS} {t : Int} (h : CX l s s') (h1 : SysQ l (takeQ t s)) (h2 : (takeQ t s').wait.Pairwise fun a b => ahead a b = true) (hs : s.co.Pairwise fun a b => a.at_ ≤ b.at_) (hl : ∀ a ∈ s.co, t ≤ a.at_) : CX l (takeQ t s) (takeQ t s') := by
  obtain ⟨f1, f2⟩ := tw_filter (t := t) isX s.co hs hl
  refine ⟨?_, ?_, h.busy, h.nf, h.out⟩
  · simp only [takeQ, h.co, f2]
  · refine srt_ext h2 (h1.srt.sublist List.filter_sublist) fun x => ?_
    simp only [takeQ, h.co, h.wait, f1]
    rw [List.mem_filter, insF_mem, insF_mem, List.mem_filter]
    constructor
    · rintro (⟨h, hx⟩ | ⟨a, ha, rfl⟩)
      · exact ⟨.inl h, hx⟩
      · rw [List.mem_filter] at ha
        exact ⟨.inr ⟨a, ha.1, rfl⟩, ha.2⟩
    · rintro ⟨h | ⟨a, ha, rfl⟩, hx⟩
      · exact .inl ⟨h, hx⟩
      · exact .inr ⟨a, List.mem_filter.2 ⟨ha, hx⟩, rfl⟩
theorem filter_comm {α : Type} (p q : α → Bool) (l : List α) : (l.filter p).filter q = (l.filter q).filter p := by
  rw [List.filter_filter, List.filter_filter]
  congr 1
  funext x
  rw [Bool.and_comm]
theorem CX.exp {l : List Arr} {s s' : QS} (h : CX l s s') (t : Int) : CX l (expQ t s) (expQ t s') := by
  refine ⟨h.co, ?_, h.busy, h.nf, h.out⟩
  simp only [expQ, freshQ, h.wait]
  rw [filter_comm]
/-- Without an entry that interrupts, no expedited entry waits. -/
theorem no_x {w : List Entry} (hs : w.Pairwise fun a b => ahead a b = true) (hv : ∀ x ∈ w, ValidE x) (h : ∀ x r, w = x :: r → x.prio ≠ 2) : w.filter isE = [] := by
  rw [List.filter_eq_nil_iff]
  intro z hz
  cases w with
  | nil => simp at hz
  | cons x r =>
    rw [List.pairwise_cons] at hs
    have hx := h x r rfl
    rcases List.mem_cons.1 hz with rfl | hz
    · simpa [isE] using hx
    · have h1 := hs.1 z hz
      have h2 := hv x (by simp)
      have h3 := hv z (by simp [hz])
      unfold ahead at h1
      unfold ValidE at h2 h3
      simp only [decide_eq_true_eq] at h1
      simp only [isE, decide_eq_true_eq]
      omega
theorem CX.pre {l : List Arr} {s s' : QS} (h : CX l s s') (hsy : SysQ l s) (hv : ∀ x ∈ s.wait, ValidE x) (hn : s.busy = true → ValidE s.now) {t : Int} (hf : freshQ s.wait t = s.wait) : CX l (preQ t s) (preQ t s') ∧ ((preQ t s').busy = false → (preQ t s).busy = true → (preQ t s').wait = []) := by
  have hs' : preQ t s' = s' := by
    unfold preQ
    split
    · rw [if_neg]
      rintro ⟨hb, hp⟩
      have h1 := h.nf hb
      have h2 := h.busy.1 hb
      unfold Ab.pre at hp
      rw [h1.1] at hp
      omega
    · rfl
  rw [hs']
  unfold preQ
  cases hw : s.wait with
  | nil =>
    refine ⟨h, fun _ _ => ?_⟩
    rw [h.wait, hw]
    rfl
  | cons x r =>
    simp only
    by_cases hp : s.busy = true ∧ Ab.pre x s.now
    · rw [if_pos hp]
      refine ⟨⟨h.co, ?_, ?_, fun hb => ?_, h.out⟩, fun _ h => by cases h⟩
      · simp only
        have hne : s.now.prio ≠ 2 := by have := hp.2.2; omega
        rw [h.wait, hw]
        unfold freshQ
        rw [filter_comm]
        have e1 : (insQ s.now (x :: r)).filter isE = (x :: r).filter isE := insB_filter _ _ _ _ (by simpa [isE] using hne)
        rw [e1, filter_comm]
        have hf' : (x :: r).filter (fun x => decide (x.exp > t)) = x :: r := by rw [← hw]; exact hf
        rw [hf']
      · simp only [Bool.false_eq_true, false_and, iff_false]
        intro hb
        have h2 := (h.busy.1 hb).2
        have := hp.2.2
        omega
      · have h2 := (h.busy.1 hb).2
        have := hp.2.2
        omega
    · rw [if_neg hp]
      refine ⟨h, fun hb' hb => ?_⟩
      rw [h.wait]
      refine no_x hsy.srt hv fun y q hy => ?_
      rw [hw] at hy
      cases hy
      intro hx2
      have hnp : ¬ s.now.prio = 2 := fun h2 => by have := h.busy.2 ⟨hb, h2⟩; rw [hb'] at this; cases this
      have hv2 := hn hb
      unfold ValidE at hv2
      exact hp ⟨hb, hx2, by omega⟩
theorem CX.beg {l : List Arr} {s s' : QS} (h : CX l s s') (hsy : SysQ l s) (hv : ∀ x ∈ s.wait, ValidE x) (hi : s'.busy = false → s.busy = true → s'.wait = []) (rate t : Int) : CX l (begQ rate t s) (begQ rate t s') ∧ ((begQ rate t s').busy = false → (begQ rate t s').wait = []) := by
  cases hb : s.busy with
  | true =>
    have e1 : begQ rate t s = s := by unfold begQ; rw [if_pos hb]
    rw [e1]
    cases hb' : s'.busy with
    | true =>
      have e2 : begQ rate t s' = s' := by unfold begQ; rw [if_pos hb']
      rw [e2]
      exact ⟨h, fun h => by rw [hb'] at h; cases h⟩
    | false =>
      have hw := hi hb' hb
      have e2 : begQ rate t s' = s' := by unfold begQ; rw [if_neg (by simp [hb']), hw]
      rw [e2]
      exact ⟨h, fun _ => hw⟩
  | false =>
    have hb' : s'.busy = false := by
      cases hc : s'.busy with
      | false => rfl
      | true => have := (h.busy.1 hc).1; rw [hb] at this; cases this
    cases hw : s.wait with
    | nil =>
      have hw' : s'.wait = [] := by rw [h.wait, hw]; rfl
      have e1 : begQ rate t s = s := by unfold begQ; rw [if_neg (by simp [hb]), hw]
      have e2 : begQ rate t s' = s' := by unfold begQ; rw [if_neg (by simp [hb']), hw']
      rw [e1, e2]
      exact ⟨h, fun _ => hw'⟩
    | cons x r =>
      have e1 : begQ rate t s = { s with now := x, wait := r, busy := true, fin := t + durQ rate x } := by unfold begQ; rw [if_neg (by simp [hb]), hw]
      by_cases hx : x.prio = 2
      · have hw' : s'.wait = x :: r.filter isE := by rw [h.wait, hw, List.filter_cons_of_pos (by simpa [isE] using hx)]
        have e2 : begQ rate t s' = { s' with now := x, wait := r.filter isE, busy := true, fin := t + durQ rate x } := by unfold begQ; rw [if_neg (by simp [hb']), hw']
        rw [e1, e2]
        exact ⟨⟨h.co, rfl, by simp [hx], fun _ => ⟨rfl, rfl⟩, h.out⟩, fun h => by cases h⟩
      · have hw' : s'.wait = [] := by
          rw [h.wait]
          refine no_x hsy.srt hv fun y q hy => ?_
          rw [hw] at hy
          cases hy
          exact hx
        have e2 : begQ rate t s' = s' := by unfold begQ; rw [if_neg (by simp [hb']), hw']
        rw [e1, e2]
        refine ⟨⟨h.co, ?_, by simp [hb', hx], fun h => (by rw [hb'] at h; cases h), h.out⟩, fun _ => hw'⟩
        simp only
        rw [hw']
        have := h.wait
        rw [hw', hw, List.filter_cons_of_neg (by simpa [isE] using hx)] at this
        exact this
end Ab

set_option linter.unusedVariables false
set_option linter.unusedSimpArgs false
namespace Ab
open Go


theorem fresh_fresh (w : List Entry) (t : Int) : freshQ (freshQ w t) t = freshQ w t := fresh_idem w t
theorem CX.step {l : List Arr} (hg : GoodA l) {rate : Int} {s s' : QS} (h : CX l s s') (hq : QInv l s) (hsy : SysQ l s) (hsy' : SysQ (l.filter isX) s') {t : Int} (ht : timeQ s = some t) : CX l (stepQ l rate t s) (stepQ (l.filter isX) rate t s') ∧ ((stepQ (l.filter isX) rate t s').busy = false → (stepQ (l.filter isX) rate t s').wait = []) := by
  have hcs : s.co.Pairwise fun a b => a.at_ ≤ b.at_ := by rw [hq.co]; exact hg.srt.sublist (List.drop_sublist _ _)
  obtain ⟨_, hle⟩ := time_le hcs ht
  have e1 : (endQ l t s).co = s.co := by unfold endQ; split <;> rfl
  have a1 := h.end hsy hg.dis t
  have y1 := hsy.end t
  have y1' := hsy'.end t
  have m1 := hq.mid.end t
  have y2 := y1.take t
  have y2' := y1'.take t
  have m2 := m1.take hg t
  have a2 := a1.take y2 y2'.srt (by rw [e1]; exact hcs) (by rw [e1]; exact hle)
  have a3 := a2.exp t
  have y3 := y2.exp t
  have m3 := m2.exp t
  obtain ⟨a4, i4⟩ := a3.pre y3 m3.wv m3.nv (t := t) (fresh_idem _ _)
  exact a4.beg (y3.pre t) (m3.pre t).wv i4 rate t
/-- A time at which nothing happens does not matter. -/
theorem skip {l : List Arr} {rate : Int} {s : QS} (hsy : SysQ l s) (hi : s.busy = false → s.wait = []) (hx : s.busy = true → s.now.prio = 2) (hco : s.co.Pairwise fun a b => a.at_ ≤ b.at_) {t : Int} (hb : s.busy = true → t ≤ s.fin) (ha : ∀ a ∈ s.co, t ≤ a.at_) : runQ l rate (stepQ l rate t s) = runQ l rate s := by
  by_cases hnow : timeQ s = some t
  · have : roundQ l rate s = .next (stepQ l rate t s) := by unfold roundQ; rw [hnow]
    rw [runQ_eq l rate s, this]
    rfl
  · -- nothing ends, nothing arrives
    have h1 : endQ l t s = s := by
      unfold endQ
      rw [if_neg]
      rintro ⟨h1, h2⟩
      refine hnow ?_
      unfold timeQ
      rw [h1]
      cases hc : s.co with
      | nil => simp [h2]
      | cons a r =>
        have := ha a (by rw [hc]; simp)
        simp only [Option.some.injEq]
        rw [if_neg (by omega), h2]
    have h2 : ∀ a ∈ s.co, ¬ a.at_ = t := by
      intro a ham hat
      refine hnow ?_
      unfold timeQ
      cases hc : s.co with
      | nil => rw [hc] at ham; simp at ham
      | cons b r =>
        have hbt : b.at_ = t := by
          have h3 := ha b (by rw [hc]; simp)
          rw [hc] at ham hco
          rcases List.mem_cons.1 ham with rfl | ham
          · exact hat
          · have := (List.pairwise_cons.1 hco).1 a ham
            omega
        cases hbz : s.busy with
        | false => simp [hbt]
        | true =>
          have := hb hbz
          simp only [Option.some.injEq]
          split <;> omega
    have h3 : takeQ t s = s := by
      have e1 : (s.co.takeWhile fun a => decide (a.at_ = t)) = [] ∧ (s.co.dropWhile fun a => decide (a.at_ = t)) = s.co := by
        cases hc : s.co with
        | nil => exact ⟨rfl, rfl⟩
        | cons b r =>
          have : ¬ b.at_ = t := h2 b (by rw [hc]; simp)
          simp [List.takeWhile_cons, List.dropWhile_cons, this]
      unfold takeQ
      rw [e1.1, e1.2]
      rfl
    have h4 : stepQ l rate t s = expQ t s := by
      unfold stepQ
      rw [h1, h3]
      have p1 : preQ t (expQ t s) = expQ t s := by
        unfold preQ
        split
        · rw [if_neg]
          rintro ⟨p1, p2⟩
          have := hx p1
          have := p2.2
          simp only [expQ] at this
          omega
        · rfl
      rw [p1]
      unfold begQ
      cases hbz : s.busy with
      | true => rw [if_pos (show (expQ t s).busy = true from hbz)]
      | false =>
        have hw : (expQ t s).wait = [] := by simp only [expQ, hi hbz]; rfl
        rw [if_neg (by simp [expQ, hbz]), hw]
    rw [h4, runQ_eq l rate s, runQ_eq l rate (expQ t s)]
    have htt : timeQ (expQ t s) = timeQ s := rfl
    unfold roundQ
    rw [htt]
    cases htm : timeQ s with
    | none => rfl
    | some u =>
      simp only [Rd.fin]
      have htu : t ≤ u := by
        unfold timeQ at htm
        split at htm
        · rename_i hbz hc
          cases htm; exact hb hbz
        · rename_i a r hbz hc
          cases htm
          have h5 := hb hbz
          have h6 := ha a (by rw [hc]; simp)
          split <;> omega
        · rename_i a r hbz hc
          cases htm
          exact ha a (by rw [hc]; simp)
        · cases htm
      have h5 : endQ l u (expQ t s) = expQ t (endQ l u s) := by unfold endQ expQ; split <;> rfl
      have h6 : expQ u (takeQ u (expQ t (endQ l u s))) = expQ u (takeQ u (endQ l u s)) := by
        have y1 := (hsy.end u).take u
        have y2 := ((hsy.end u).exp t).take u
        have hw : (expQ u (takeQ u (expQ t (endQ l u s)))).wait = (expQ u (takeQ u (endQ l u s))).wait := by
          refine srt_ext (y2.exp u).srt (y1.exp u).srt fun x => ?_
          simp only [expQ, takeQ, freshQ]
          rw [List.mem_filter, List.mem_filter, insF_mem, insF_mem, List.mem_filter]
          constructor
          · rintro ⟨⟨h, _⟩ | h, hxu⟩
            · exact ⟨.inl h, hxu⟩
            · exact ⟨.inr h, hxu⟩
          · rintro ⟨h | h, hxu⟩
            · refine ⟨.inl ⟨h, ?_⟩, hxu⟩
              simp only [decide_eq_true_eq] at hxu ⊢
              omega
            · exact ⟨.inr h, hxu⟩
        simp only [expQ, takeQ] at hw ⊢
        rw [hw]
      unfold stepQ
      rw [h5, h6]
theorem expedited {l : List Arr} (hg : GoodA l) {rate : Int} (hr : 1 ≤ rate ∧ rate ≤ 1000) : ∀ (k : Nat) (s s' : QS), muQ s ≤ k → QInv l s → SysQ l s → SysQ (l.filter isX) s' → CX l s s' → (s'.busy = false → s'.wait = []) → runQ (l.filter isX) rate s' = sel l (runQ l rate s)
  | k, s, s', hk, hq, hsy, hsy', hc, hi => by
    have hcs : s.co.Pairwise fun a b => a.at_ ≤ b.at_ := by rw [hq.co]; exact hg.srt.sublist (List.drop_sublist _ _)
    cases ht : timeQ s with
    | none =>
      have hn : roundQ l rate s = .done s.out := by unfold roundQ; rw [ht]
      have : s.busy = false ∧ s.co = [] := by
        unfold timeQ at ht
        split at ht <;> first | cases ht | skip
        rename_i hb hc
        exact ⟨hb, hc⟩
      have hb' : s'.busy = false := by
        cases h : s'.busy with
        | false => rfl
        | true => have := (hc.busy.1 h).1; simp_all
      have hco' : s'.co = [] := by rw [hc.co, this.2]; rfl
      have hn' : roundQ (l.filter isX) rate s' = .done s'.out := by
        unfold roundQ
        have : timeQ s' = none := by unfold timeQ; rw [hb', hco']
        rw [this]
      rw [runQ_eq, runQ_eq l rate s, hn, hn']
      exact hc.out
    | some t =>
      have hrd : roundQ l rate s = .next (stepQ l rate t s) := by unfold roundQ; rw [ht]
      have hm := mu_step (l := l) (rate := rate) ht
      obtain ⟨k, rfl⟩ : ∃ q, k = q + 1 := ⟨k - 1, by omega⟩
      obtain ⟨t1, t2⟩ := time_le hcs ht
      obtain ⟨c1, i1⟩ := hc.step hg hq hsy hsy' (rate := rate) ht
      have hsk := skip (l := l.filter isX) (rate := rate) hsy' hi (fun hb => by rw [(hc.nf hb).1]; exact (hc.busy.1 hb).2) (by rw [hc.co]; exact hcs.sublist List.filter_sublist) (t := t)
        (fun hb => by rw [(hc.nf hb).2]; exact t1 (hc.busy.1 hb).1) (fun a ha => by rw [hc.co] at ha; exact t2 a (List.mem_filter.1 ha).1)
      rw [← hsk, runQ_eq l rate s, hrd]
      exact expedited hg hr k _ _ (by omega) (hq.step hg hr ht) (hsy.step rate t) (hsy'.step rate t) c1 i1
theorem serve_x {l : List Arr} (hg : GoodA l) {rate : Int} (hr : 1 ≤ rate ∧ rate ≤ 1000) : serveQ (l.filter isX) rate = sel l (serveQ l rate) := by
  have hg' := hg.sub (l' := l.filter isX) List.filter_sublist
  refine expedited hg hr _ (startQ l) (startQ (l.filter isX)) (Nat.le_refl _) QInv.start (SysQ.start hg) (SysQ.start hg') ⟨rfl, rfl, by simp [startQ], fun h => by simp [startQ] at h, ?_⟩ (fun _ => rfl)
  simp only [startQ]
  rw [sel_rep]
def xStep (o : List Int) (i : Nat) (s : List Arr × List Int) (a : Arr) : List Arr × List Int := if isX a = true then (s.1 ++ [a], s.2 ++ (o[i]?).toList) else s
theorem sel_take : ∀ (l : List Arr) (o : List Int) (i : Nat) (a : Arr) (v : Int), l[i]? = some a → o[i]? = some v → sel (l.take (i + 1)) (o.take (i + 1)) = sel (l.take i) (o.take i) ++ if isX a = true then [v] else []
  | [], o, i, a, v, ha, hv => by simp at ha
  | b :: l, [], i, a, v, ha, hv => by simp at hv
  | b :: l, w :: o, 0, a, v, ha, hv => by
    simp only [List.getElem?_cons_zero, Option.some.injEq] at ha hv
    subst ha hv
    simp only [List.take_succ_cons, List.take_zero, sel]
    split <;> rfl
  | b :: l, w :: o, i + 1, a, v, ha, hv => by
    simp only [List.getElem?_cons_succ] at ha hv
    have ih := sel_take l o i a v ha hv
    simp only [List.take_succ_cons, sel]
    rw [ih]
    split <;> rfl
theorem law4 (l : List Arr) (rate : Int) : Runs C 4 [.sl 5 (l.map Arr.enc), tI rate] [.bool true] := by
  refine Runs.of (fun n => e4 n _ _) ?_
  have hgt := s11 (l.map Arr.enc)
  rw [List.length_map] at hgt
  cases hgr : great l.length with
  | true =>
    rw [hgr] at hgt
    refine (hgt.and s12).mono fun n h => ?_
    simp only [h.1, h.2, vI_mk, vB_mk, vS_mk, vL_mk, sVer_mk, sOff_mk, sLen_mk, oVer_mk, oEs_mk, cI_mk, cB_mk, cS_mk, cL_mk, cVer_mk, cOff_mk, cLen_mk, gI_zero, gI_succ, gB_zero, gB_succ, gS_zero, gS_succ, gL_zero, gL_succ, okI_zero, okI_succ, okB_zero, okB_succ, okS_zero, okS_succ, okL_zero, okL_succ, isIntT_int, isBoolT_bool, isStrT_str, isSlT_sl, intOf_int, boolOf_bool, strOf_str, slOf_sl, treeOf_t, srVer_sref, srOff_sref, srLen_sref, ver_row, esOf_row, cellOf_box, aI_mk, aB_mk, aS_mk, aL_mk, aggOf_agg, join_eq, List.getD_cons_zero, List.getD_cons_succ, decide_true, decide_false, cnd_true, cnd_false, true_and, and_true, false_and, and_false, Option.bind_some, Option.bind_none, List.length_cons, List.length_nil, List.length_map, List.getElem?_map, Option.map_some, Option.map_none, Int.toNat_natCast, reduceCtorEq, eq_self, if_true, if_false, Nat.zero_add, Nat.reduceAdd, Nat.reduceEqDiff, Int.natCast_nonneg, List.drop_zero, or_true, true_or, or_false, false_or, Bool.not_true, Bool.not_false, Bool.false_eq_true, decide_eq_true_eq, ge_iff_le, gt_iff_lt]
  | false =>
    rw [hgr] at hgt
    have h70 := big_great hgr
    have h13 := s13 l rate (by omega)
    by_cases hc : checkR l rate = 0
    · obtain ⟨hr, hg⟩ := checkR_zero.1 hc
      have hs : servR l rate = (serveQ l rate, 0) := by unfold servR; rw [if_neg (by simp [hc])]
      rw [hs] at h13
      have hlen := serve_len hg hr
      have hxs := serve_x hg hr
      generalize serveQ l rate = o at h13 hlen hxs
      have hg2 := hg.sub (l' := l.filter isX) List.filter_sublist
      have hfl : (l.filter isX).length ≤ l.length := List.length_filter_le _ _
      have hs2 : servR (l.filter isX) rate = (sel l o, 0) := by unfold servR; rw [if_neg (by simp [checkR_zero.2 ⟨hr, hg2⟩]), hxs]
      have k13 := s13 (l.filter isX) rate (by omega)
      rw [hs2] at k13
      have hsl : (sel l o).length = (l.filter isX).length := by rw [← hxs, serve_len hg2 hr]
      refine Ev.rw (T' := ?TT) (hgt.and h13) (fun k h => ?g1) ?g2
      case g1 =>
        obtain ⟨h1, h2⟩ := h
        simp only [h1, h2, vI_mk, vB_mk, vS_mk, vL_mk, sVer_mk, sOff_mk, sLen_mk, oVer_mk, oEs_mk, cI_mk, cB_mk, cS_mk, cL_mk, cVer_mk, cOff_mk, cLen_mk, gI_zero, gI_succ, gB_zero, gB_succ, gS_zero, gS_succ, gL_zero, gL_succ, okI_zero, okI_succ, okB_zero, okB_succ, okS_zero, okS_succ, okL_zero, okL_succ, isIntT_int, isBoolT_bool, isStrT_str, isSlT_sl, intOf_int, boolOf_bool, strOf_str, slOf_sl, treeOf_t, srVer_sref, srOff_sref, srLen_sref, ver_row, esOf_row, cellOf_box, aI_mk, aB_mk, aS_mk, aL_mk, aggOf_agg, join_eq, List.getD_cons_zero, List.getD_cons_succ, decide_true, decide_false, cnd_true, cnd_false, true_and, and_true, false_and, and_false, Option.bind_some, Option.bind_none, List.length_cons, List.length_nil, List.length_map, List.getElem?_map, Option.map_some, Option.map_none, Int.toNat_natCast, reduceCtorEq, eq_self, if_true, if_false, Nat.zero_add, Nat.reduceAdd, Nat.reduceEqDiff, Int.natCast_nonneg, List.drop_zero, or_true, true_or, or_false, false_or, Bool.not_true, Bool.not_false, Bool.false_eq_true, decide_eq_true_eq, ge_iff_le, gt_iff_lt, bne_self_eq_false, J4_2, hlen]
        rfl
      case g2 =>
        refine loop_overQ (fun r => [Tree.bool r]) l (fun i (s : List Arr × List Int) => (([.sref 0 s.1.length 0 s.1.length, .sref 1 s.2.length 0 s.2.length, .t (tI i)], [.row false s.1.length 5 (s.1.map Arr.enc), .row false s.2.length 1 (s.2.map encI)]) : List AV × Heap))
          (fun i s a => .next (xStep o i s a)) (fun _ => true) (fun i s => s = ((l.take i).filter isX, sel (l.take i) (o.take i)) ∧ s.1.length ≤ i ∧ s.2.length ≤ i) ([], []) rfl ⟨by simp [sel], by simp, by simp⟩ (r := true) ?_
          (fun i s a ha hI => Ev.of fun n again => ?_) (fun i s a s' ha hI hs' => ?_) (fun s hI => ?_)
        · have : ∀ (c : List Arr) (j : Nat) (s : List Arr × List Int), runL (fun i s a => Rd.next (xStep o i s a)) (fun _ => true) j c s = true := by
            intro c
            induction c with
            | nil => intro j s; rfl
            | cons x c ih => intro j s; exact ih _ _
          exact this l 0 _
        · have hi := lt_of_some ha
          obtain ⟨i1, i2, i3⟩ := hI
          obtain ⟨v, hv⟩ : ∃ v, o[i]? = some v := ⟨_, List.getElem?_eq_getElem (show i < o.length by omega)⟩
          have e1 : List.take s.1.length (s.1.map Arr.enc) = s.1.map Arr.enc := List.take_of_length_le (by simp)
          have e2 : List.take s.2.length (s.2.map encI) = s.2.map encI := List.take_of_length_le (by simp)
          unfold xStep
          by_cases hx : a.e.prio = 2
          · have hx' : isX a = true := by simpa [isX] using hx
            rw [if_pos hx']
            have hbe : (a.e.prio == 2) = true := by simpa using hx
            simp only [L4_1, vI_mk, vB_mk, vS_mk, vL_mk, sVer_mk, sOff_mk, sLen_mk, oVer_mk, oEs_mk, cI_mk, cB_mk, cS_mk, cL_mk, cVer_mk, cOff_mk, cLen_mk, gI_zero, gI_succ, gB_zero, gB_succ, gS_zero, gS_succ, gL_zero, gL_succ, okI_zero, okI_succ, okB_zero, okB_succ, okS_zero, okS_succ, okL_zero, okL_succ, isIntT_int, isBoolT_bool, isStrT_str, isSlT_sl, intOf_int, boolOf_bool, strOf_str, slOf_sl, treeOf_t, srVer_sref, srOff_sref, srLen_sref, ver_row, esOf_row, cellOf_box, aI_mk, aB_mk, aS_mk, aL_mk, aggOf_agg, join_eq, List.getD_cons_zero, List.getD_cons_succ, decide_true, decide_false, cnd_true, cnd_false, true_and, and_true, false_and, and_false, Option.bind_some, Option.bind_none, List.length_cons, List.length_nil, List.length_map, List.getElem?_map, Option.map_some, Option.map_none, Int.toNat_natCast, reduceCtorEq, eq_self, if_true, if_false, Nat.zero_add, Nat.reduceAdd, Nat.reduceEqDiff, Int.natCast_nonneg, List.drop_zero, or_true, true_or, or_false, false_or, Bool.not_true, Bool.not_false, Bool.false_eq_true, decide_eq_true_eq, ge_iff_le, gt_iff_lt, ha, Arr.enc, (show (i : Int) < (l.length : Int) by omega), hbe, hv, encI, Nat.le_refl, (show s.1.length + 1 ≤ 1073741824 by omega), (show s.2.length + 1 ≤ 1073741824 by omega), e1, e2, w64_succ (show i < 4611686018427387904 by omega), Rd.go_next, List.map_append, List.map_cons, List.map_nil, List.length_append, Option.toList]
          · have hx' : ¬ isX a = true := by simpa [isX] using hx
            rw [if_neg hx']
            have hbe : (a.e.prio == 2) = false := by simpa using hx
            simp only [L4_1, vI_mk, vB_mk, vS_mk, vL_mk, sVer_mk, sOff_mk, sLen_mk, oVer_mk, oEs_mk, cI_mk, cB_mk, cS_mk, cL_mk, cVer_mk, cOff_mk, cLen_mk, gI_zero, gI_succ, gB_zero, gB_succ, gS_zero, gS_succ, gL_zero, gL_succ, okI_zero, okI_succ, okB_zero, okB_succ, okS_zero, okS_succ, okL_zero, okL_succ, isIntT_int, isBoolT_bool, isStrT_str, isSlT_sl, intOf_int, boolOf_bool, strOf_str, slOf_sl, treeOf_t, srVer_sref, srOff_sref, srLen_sref, ver_row, esOf_row, cellOf_box, aI_mk, aB_mk, aS_mk, aL_mk, aggOf_agg, join_eq, List.getD_cons_zero, List.getD_cons_succ, decide_true, decide_false, cnd_true, cnd_false, true_and, and_true, false_and, and_false, Option.bind_some, Option.bind_none, List.length_cons, List.length_nil, List.length_map, List.getElem?_map, Option.map_some, Option.map_none, Int.toNat_natCast, reduceCtorEq, eq_self, if_true, if_false, Nat.zero_add, Nat.reduceAdd, Nat.reduceEqDiff, Int.natCast_nonneg, List.drop_zero, or_true, true_or, or_false, false_or, Bool.not_true, Bool.not_false, Bool.false_eq_true, decide_eq_true_eq, ge_iff_le, gt_iff_lt, ha, Arr.enc, (show (i : Int) < (l.length : Int) by omega), hbe, w64_succ (show i < 4611686018427387904 by omega), Rd.go_next]
        · have hi := lt_of_some ha
          obtain ⟨i1, i2, i3⟩ := hI
          obtain ⟨v, hv⟩ : ∃ v, o[i]? = some v := ⟨_, List.getElem?_eq_getElem (show i < o.length by omega)⟩
          simp only [Rd.next.injEq] at hs'
          subst hs'
          have ht : l.take (i + 1) = l.take i ++ [a] := by rw [List.take_add_one, ha]; rfl
          have hst := sel_take l o i a v ha hv
          unfold xStep
          rw [hv, hst, ht, List.filter_append]
          cases hx : isX a with
          | true =>
            refine ⟨?_, by simp; omega, by simp; omega⟩
            simp [i1, hx]
          | false =>
            refine ⟨?_, by simp; omega, by simp; omega⟩
            simp [i1, hx]
        · obtain ⟨i1, i2, i3⟩ := hI
          rw [List.take_length, List.take_of_length_le (show o.length ≤ l.length by omega)] at i1
          subst i1
          have e1 : List.take (l.filter isX).length ((l.filter isX).map Arr.enc) = (l.filter isX).map Arr.enc := List.take_of_length_le (by simp)
          have e2 : List.take (sel l o).length ((sel l o).map encI) = (sel l o).map encI := List.take_of_length_le (by simp)
          refine (k13.and (s12.and (s15 (sel l o) (sel l o) (by omega)))).mono fun n h again => ?_
          obtain ⟨h1, h2, h3⟩ := h
          simp only [L4_1, vI_mk, vB_mk, vS_mk, vL_mk, sVer_mk, sOff_mk, sLen_mk, oVer_mk, oEs_mk, cI_mk, cB_mk, cS_mk, cL_mk, cVer_mk, cOff_mk, cLen_mk, gI_zero, gI_succ, gB_zero, gB_succ, gS_zero, gS_succ, gL_zero, gL_succ, okI_zero, okI_succ, okB_zero, okB_succ, okS_zero, okS_succ, okL_zero, okL_succ, isIntT_int, isBoolT_bool, isStrT_str, isSlT_sl, intOf_int, boolOf_bool, strOf_str, slOf_sl, treeOf_t, srVer_sref, srOff_sref, srLen_sref, ver_row, esOf_row, cellOf_box, aI_mk, aB_mk, aS_mk, aL_mk, aggOf_agg, join_eq, List.getD_cons_zero, List.getD_cons_succ, decide_true, decide_false, cnd_true, cnd_false, true_and, and_true, false_and, and_false, Option.bind_some, Option.bind_none, List.length_cons, List.length_nil, List.length_map, List.getElem?_map, Option.map_some, Option.map_none, Int.toNat_natCast, reduceCtorEq, eq_self, if_true, if_false, Nat.zero_add, Nat.reduceAdd, Nat.reduceEqDiff, Int.natCast_nonneg, List.drop_zero, or_true, true_or, or_false, false_or, Bool.not_true, Bool.not_false, Bool.false_eq_true, decide_eq_true_eq, ge_iff_le, gt_iff_lt, Int.lt_irrefl, e1, e2, h1, beq_self_eq_true, h3, h2]
    · have hs : servR l rate = ([], checkR l rate) := by unfold servR; rw [if_pos hc]
      rw [hs] at h13
      have hne : (checkR l rate != 0) = true := by simp [hc]
      refine (hgt.and (h13.and s12)).mono fun n h => ?_
      obtain ⟨h1, h2, h3⟩ := h
      simp only [h1, h2, h3, vI_mk, vB_mk, vS_mk, vL_mk, sVer_mk, sOff_mk, sLen_mk, oVer_mk, oEs_mk, cI_mk, cB_mk, cS_mk, cL_mk, cVer_mk, cOff_mk, cLen_mk, gI_zero, gI_succ, gB_zero, gB_succ, gS_zero, gS_succ, gL_zero, gL_succ, okI_zero, okI_succ, okB_zero, okB_succ, okS_zero, okS_succ, okL_zero, okL_succ, isIntT_int, isBoolT_bool, isStrT_str, isSlT_sl, intOf_int, boolOf_bool, strOf_str, slOf_sl, treeOf_t, srVer_sref, srOff_sref, srLen_sref, ver_row, esOf_row, cellOf_box, aI_mk, aB_mk, aS_mk, aL_mk, aggOf_agg, join_eq, List.getD_cons_zero, List.getD_cons_succ, decide_true, decide_false, cnd_true, cnd_false, true_and, and_true, false_and, and_false, Option.bind_some, Option.bind_none, List.length_cons, List.length_nil, List.length_map, List.getElem?_map, Option.map_some, Option.map_none, Int.toNat_natCast, reduceCtorEq, eq_self, if_true, if_false, Nat.zero_add, Nat.reduceAdd, Nat.reduceEqDiff, Int.natCast_nonneg, List.drop_zero, or_true, true_or, or_false, false_or, Bool.not_true, Bool.not_false, Bool.false_eq_true, decide_eq_true_eq, ge_iff_le, gt_iff_lt, J4_2, hne, List.map_nil, Int.natCast_zero, beq_self_eq_true]
end Ab

set_option linter.unusedVariables false
set_option linter.unusedSimpArgs false
namespace Ab
open Go


def sumD (rate : Int) (w : List Entry) : Int := (w.map (durQ rate)).sum
theorem sumD_snoc (rate : Int) (w : List Entry) (x : Entry) : sumD rate (w ++ [x]) = sumD rate w + durQ rate x := by simp [sumD]
theorem sumD_cons (rate : Int) (w : List Entry) (x : Entry) : sumD rate (x :: w) = durQ rate x + sumD rate w := by simp [sumD]
theorem sumD_bd {rate : Int} (hr : 1 ≤ rate ∧ rate ≤ 1000) : ∀ {w : List Entry}, (∀ x ∈ w, ValidE x) → 0 ≤ sumD rate w ∧ sumD rate w ≤ 65536 * w.length
  | [], _ => by simp [sumD]
  | x :: w, h => by
    have ih := sumD_bd hr (w := w) fun y hy => h y (by simp [hy])
    have := dur_bd hr (h x (by simp))
    rw [sumD_cons]
    simp only [List.length_cons]
    omega
def fin1 (m : List Arr) (rate : Int) : List Entry → Entry → Int → List Int → List Int
  | [], x, T, o => markQ m x.ticket T o
  | y :: w, x, T, o => fin1 m rate w y (T + durQ rate y) (markQ m x.ticket T o)
theorem run1 (m : List Arr) {rate : Int} (hr : 1 ≤ rate ∧ rate ≤ 1000) : ∀ (w : List Entry) (x : Entry) (T : Int) (o : List Int), (∀ y ∈ w, ValidE y ∧ 1073741824 ≤ y.exp) → T + 65536 * w.length < 1073741824 → runQ m rate ⟨[], w, x, T, true, o⟩ = fin1 m rate w x T o
  | [], x, T, o, _, _ => by
    rw [runQ_eq]
    show (runQ m rate (stepQ m rate T ⟨[], [], x, T, true, o⟩)) = _
    have : stepQ m rate T ⟨[], [], x, T, true, o⟩ = ⟨[], [], x, T, false, markQ m x.ticket T o⟩ := by
      simp [stepQ, endQ, takeQ, expQ, freshQ, preQ, begQ]
    rw [this, runQ_eq]
    rfl
  | y :: w, x, T, o, hv, hT => by
    rw [runQ_eq]
    show (runQ m rate (stepQ m rate T ⟨[], y :: w, x, T, true, o⟩)) = _
    simp only [List.length_cons] at hT
    have hf : freshQ (y :: w) T = y :: w := by
      unfold freshQ
      rw [List.filter_eq_self]
      intro z hz
      have := (hv z hz).2
      simp only [decide_eq_true_eq]
      omega
    have : stepQ m rate T ⟨[], y :: w, x, T, true, o⟩ = ⟨[], w, y, T + durQ rate y, true, markQ m x.ticket T o⟩ := by
      simp [stepQ, endQ, takeQ, expQ, hf, preQ, begQ]
    rw [this]
    have hd := dur_bd hr (hv y (by simp)).1
    exact run1 m hr w y _ _ (fun z hz => hv z (by simp [hz])) (by omega)
theorem fin1_none (m : List Arr) (rate : Int) {i : Nat} {a : Arr} (ha : m[i]? = some a) : ∀ (w : List Entry) (x : Entry) (T : Int) (o : List Int) (v : Int), o[i]? = some v → (∀ y ∈ x :: w, y.ticket ≠ a.e.ticket) → (fin1 m rate w x T o)[i]? = some v
  | [], x, T, o, v, ho, hn => by
    unfold fin1
    rw [markQ_at, ha, ho]
    simp only
    rw [if_neg fun h => hn x (by simp) h.symm]
  | y :: w, x, T, o, v, ho, hn => by
    unfold fin1
    refine fin1_none m rate ha w y _ _ v ?_ fun z hz => hn z (by simp at hz ⊢; exact .inr hz)
    rw [markQ_at, ha, ho]
    simp only
    rw [if_neg fun h => hn x (by simp) h.symm]
theorem fin1_first (m : List Arr) (rate : Int) {i : Nat} {a : Arr} (ha : m[i]? = some a) (w : List Entry) (x : Entry) (T : Int) (o : List Int) (v : Int) (ho : o[i]? = some v) (hx : x.ticket = a.e.ticket) (hn : ∀ y ∈ w, y.ticket ≠ a.e.ticket) : (fin1 m rate w x T o)[i]? = some T := by
  have hm : (markQ m x.ticket T o)[i]? = some T := by
    rw [markQ_at, ha, ho]
    simp only
    rw [if_pos hx.symm]
  cases w with
  | nil => exact hm
  | cons y w => exact fin1_none m rate ha w y _ _ T hm hn
theorem fin1_at (m : List Arr) (rate : Int) {i : Nat} {a : Arr} (ha : m[i]? = some a) : ∀ (w : List Entry) (x : Entry) (T : Int) (o : List Int) (v : Int) (p : Nat) (y : Entry), o[i]? = some v → (x :: w).Pairwise (fun a b => a.ticket ≠ b.ticket) → w[p]? = some y → y.ticket = a.e.ticket → (fin1 m rate w x T o)[i]? = some (T + sumD rate (w.take (p + 1)))
  | [], x, T, o, v, p, y, _, _, hy, _ => by simp at hy
  | z :: w, x, T, o, v, p, y, ho, hd, hy, hya => by
    rw [List.pairwise_cons] at hd
    have hxn : x.ticket ≠ a.e.ticket := by
      rw [← hya]
      exact hd.1 y (List.mem_of_getElem? hy)
    have hm : (markQ m x.ticket T o)[i]? = some v := by
      rw [markQ_at, ha, ho]
      simp only
      rw [if_neg fun h => hxn h.symm]
    unfold fin1
    cases p with
    | zero =>
      simp only [List.getElem?_cons_zero, Option.some.injEq] at hy
      subst hy
      rw [fin1_first m rate ha w z _ _ v hm hya fun y' hy' => by rw [← hya]; exact ((List.pairwise_cons.1 hd.2).1 y' hy').symm]
      simp [sumD]
    | succ p =>
      simp only [List.getElem?_cons_succ] at hy
      rw [fin1_at m rate ha w z _ _ v p y hm hd.2 hy hya]
      simp only [List.take_succ_cons, sumD_cons]
      congr 1
      omega
structure SimpleM (now : Int) (q : List Entry) (m : List Arr) : Prop where
  good : GoodQ q
  perm : (m.map Arr.e).Perm q
  at_ : ∀ a ∈ m, a.at_ = now
  low : ∀ x ∈ q, x.prio ≤ 1 ∧ 1073741824 ≤ x.exp
theorem SimpleM.good_a {now : Int} {q : List Entry} {m : List Arr} (h : SimpleM now q m) (hn : 0 ≤ now ∧ now ≤ 65535) : GoodA m := by
  have hpl := h.perm.length_eq
  rw [List.length_map] at hpl
  refine ⟨by have := h.good.len; omega, fun a ha => ⟨by rw [h.at_ a ha]; omega, h.good.val _ (h.perm.mem_iff.1 (List.mem_map.2 ⟨a, ha, rfl⟩))⟩, ?_, ?_⟩
  · rw [List.pairwise_iff_getElem]
    intro i j hi hj _
    rw [h.at_ _ (List.getElem_mem hi), h.at_ _ (List.getElem_mem hj)]
    exact Int.le_refl _
  · have := (h.perm.pairwise_iff (R := fun a b : Entry => a.ticket ≠ b.ticket) fun h => Ne.symm h).2 h.good.dis
    rw [List.pairwise_map] at this
    exact this
theorem simple {now : Int} {q : List Entry} {m : List Arr} (h : SimpleM now q m) (hn : 0 ≤ now ∧ now ≤ 65535) (hl : q.length ≤ 12) {rate : Int} (hr : 1 ≤ rate ∧ rate ≤ 1000) {j i : Nat} {x : Entry} {a : Arr} (hx : q[j]? = some x) (ha : m[i]? = some a) (hax : a.e = x) : (serveQ m rate)[i]? = some (now + sumD rate (q.take (j + 1))) := by
  have hg := h.good_a hn
  unfold serveQ
  have hil := lt_of_some ha
  -- the first round
  have htime : timeQ (startQ m) = some now := by
    cases hm : m with
    | nil => rw [hm] at hil; simp at hil
    | cons b r =>
      simp only [timeQ, startQ]
      rw [h.at_ b (by rw [hm]; simp)]
  have htake : takeQ now (startQ m) = ⟨[], q, zeroE, 0, false, List.replicate m.length (-1)⟩ := by
    have h1 : m.takeWhile (fun a => decide (a.at_ = now)) = m := tw_all fun a ha => by simpa using h.at_ a ha
    have h2 : m.dropWhile (fun a => decide (a.at_ = now)) = [] := dw_all fun a ha => by simpa using h.at_ a ha
    have hw : m.foldl (fun w a => insQ a.e w) [] = q := by
      refine srt_ext (insF_srt m [] .nil ?_) h.good.srt fun x => ?_
      · rw [List.nil_append]
        exact (h.perm.pairwise_iff (R := fun a b : Entry => a.ticket ≠ b.ticket) fun h => Ne.symm h).2 h.good.dis
      · rw [(insF_perm m []).mem_iff, List.nil_append, h.perm.mem_iff]
    simp only [takeQ, startQ, h1, h2, hw]
  have hend : endQ m now (startQ m) = startQ m := by unfold endQ; rw [if_neg (by simp [startQ])]
  have hf : freshQ q now = q := by
    unfold freshQ
    rw [List.filter_eq_self]
    intro z hz
    have := (h.low z hz).2
    simp only [decide_eq_true_eq]
    omega
  cases hq : q with
  | nil => rw [hq] at hx; simp at hx
  | cons y w =>
    have hst : stepQ m rate now (startQ m) = ⟨[], w, y, now + durQ rate y, true, List.replicate m.length (-1)⟩ := by
      unfold stepQ
      rw [hend, htake]
      rw [hq] at hf
      simp [expQ, hq, hf, preQ, begQ]
    have hrd : roundQ m rate (startQ m) = .next (stepQ m rate now (startQ m)) := by unfold roundQ; rw [htime]
    rw [runQ_eq, hrd, hst]
    have hd := dur_bd hr (h.good.val y (by rw [hq]; simp))
    rw [hq] at hl
    simp only [List.length_cons] at hl
    show (runQ m rate _)[i]? = _
    rw [run1 m hr w y _ _ (fun z hz => ⟨h.good.val z (by rw [hq]; simp [hz]), (h.low z (by rw [hq]; simp [hz])).2⟩) (by omega)]
    have ho : (List.replicate m.length (-1 : Int))[i]? = some (-1) := List.getElem?_replicate_of_lt hil
    have hdis := h.good.dis
    rw [hq] at hx hdis
    cases j with
    | zero =>
      simp only [List.getElem?_cons_zero, Option.some.injEq] at hx
      rw [fin1_first m rate ha w y _ _ (-1) ho (by rw [hax, hx]) fun z hz => by rw [hax, ← hx]; exact ((List.pairwise_cons.1 hdis).1 z hz).symm]
      simp [sumD]
    | succ j =>
      simp only [List.getElem?_cons_succ] at hx
      rw [fin1_at m rate ha w y _ _ (-1) j x ho hdis hx (by rw [hax])]
      simp only [List.take_succ_cons, sumD_cons]
      congr 1
      omega
theorem and_bd (a : Int) (b : Nat) (hb : b < 9223372036854775808) : 0 ≤ andK .i64 a (b : Int) ∧ andK .i64 a (b : Int) ≤ b := by
  unfold andK
  have h1 : (BitVec.ofInt (IntKind.bits .i64) a &&& BitVec.ofInt (IntKind.bits .i64) (b : Int)).toNat ≤ b := by
    rw [BitVec.toNat_and]
    refine Nat.le_trans Nat.and_le_right ?_
    rw [BitVec.ofInt_natCast, BitVec.toNat_ofNat]
    exact Nat.mod_le _ _
  generalize (BitVec.ofInt (IntKind.bits .i64) a &&& BitVec.ofInt (IntKind.bits .i64) (b : Int)).toNat = c at h1
  rw [wrap_id (by omega) (by omega)]
  omega
def fixE (x : Entry) : Entry := ⟨x.ticket, andK .i64 x.prio 1, w64 (1073741824 + andK .i64 x.exp 1023), x.size⟩
theorem fixE_low (x : Entry) : (fixE x).prio ≤ 1 ∧ 1073741824 ≤ (fixE x).exp := by
  have h1 := and_bd x.prio 1 (by omega)
  have h2 := and_bd x.exp 1023 (by omega)
  simp only [Int.natCast_one, show ((1023 : Nat) : Int) = 1023 from rfl] at h1 h2
  refine ⟨h1.2, ?_⟩
  show 1073741824 ≤ w64 (1073741824 + andK .i64 x.exp 1023)
  rw [w64_id (by omega) (by omega)]
  omega
def smStep (now : Int) (s : List Entry × List Arr) (x : Entry) : List Entry × List Arr := if (pushQ s.1 (fixE x)).2 = 0 then ((pushQ s.1 (fixE x)).1, s.2 ++ [⟨now, fixE x⟩]) else s
theorem SimpleM.step {now : Int} {s : List Entry × List Arr} (h : SimpleM now s.1 s.2) (x : Entry) : SimpleM now (smStep now s x).1 (smStep now s x).2 ∧ (smStep now s x).2.length ≤ s.2.length + 1 := by
  unfold smStep pushQ
  have c1 := (checkQ_zero s.1).2 h.good
  simp only [c1, ne_eq, not_true, if_false]
  by_cases c2 : ValidE (fixE x)
  · rw [if_neg (not_not_intro c2)]
    cases c3 : hasT s.1 (fixE x).ticket with
    | true => simp [h]
    | false =>
      by_cases c4 : s.1.length = 64
      · simp [c4, h]
      · simp only [Bool.false_eq_true, if_false, if_neg c4, if_true]
        refine ⟨⟨insQ_good h.good c2 c3 c4, ?_, fun a ha => ?_, fun y hy => ?_⟩, by simp⟩
        · rw [List.map_append, List.map_cons, List.map_nil]
          refine List.Perm.trans ?_ (insQ_perm (fixE x) s.1).symm
          exact (List.perm_append_singleton _ _).trans (h.perm.cons _)
        · rw [List.mem_append, List.mem_singleton] at ha
          rcases ha with ha | rfl
          · exact h.at_ a ha
          · rfl
        · rcases (insB_mem _ _ _ _).1 hy with rfl | hy
          · exact fixE_low x
          · exact h.low y hy
  · rw [if_pos c2]
    simp [h]
theorem o7 (q : List Entry) (m : List Arr) (now : Int) (h : SimpleM now q m) (hn : 0 ≤ now ∧ now ≤ 65535) (hl : q.length ≤ 12) (r : Int) (hr : 0 ≤ r ∧ r ≤ 255) (o : List Int) (hos : o = serveQ m (1 + r)) (p4 : List AV × Heap) (h1 : vL p4 0 = q.map Entry.enc) (h2 : sVer p4 1 = m.length) (h3 : oVer p4 0 = m.length) (h4 : sOff p4 1 = 0) (h5 : sLen p4 1 = m.length) (h6 : oEs p4 0 = m.map Arr.enc) :
    Ev fun n => loopIter (fun p again => L7_6 n p4 r [.sl 1 (o.map encI), tI 0] p again) n ([.t (tI now), .t (tI 0)], [.box []]) = some [.bool true] := by
  have hrr : 1 ≤ 1 + r ∧ 1 + r ≤ 1000 := by omega
  have hpl := h.perm.length_eq
  rw [List.length_map] at hpl
  have hwr : w64 (1 + w64 r) = 1 + r := by rw [w64_id (x := r) (by omega) (by omega), w64_id (by omega) (by omega)]
  refine loop_overQ (fun b => [Tree.bool b]) q (fun j (_ : Unit) => (([.t (tI (now + sumD (1 + r) (q.take j))), .t (tI j)], [.box []]) : List AV × Heap)) (fun _ _ _ => .next ()) (fun _ => true) (fun _ _ => True) () (by simp [sumD]) trivial (runL_fold (fun _ _ => ()) (fun _ => true) 0 _ ())
    (fun j u x hx hI => ?_) (fun _ _ _ _ _ _ _ => trivial) (fun u hI => ?_)
  · have hj := lt_of_some hx
    have hv := h.good.val x (List.mem_of_getElem? hx)
    obtain ⟨d1, d2, d3⟩ := dur_bd hrr hv
    have hsz := hv
    unfold ValidE at hsz
    have hb := sumD_bd hrr (w := q.take j) fun y hy => h.good.val y (List.mem_of_mem_take hy)
    have hlt : (q.take j).length ≤ 12 := by simp; omega
    have ht : q.take (j + 1) = q.take j ++ [x] := by rw [List.take_add_one, hx]; rfl
    have hsum : sumD (1 + r) (q.take (j + 1)) = sumD (1 + r) (q.take j) + durQ (1 + r) x := by rw [ht, sumD_snoc]
    -- the place of the entry
    obtain ⟨a0, ha0, hae0⟩ := List.mem_map.1 (h.perm.mem_iff.2 (List.mem_of_getElem? hx))
    have hidx : ∃ i a, idx (fun a : Arr => decide (a.e = x)) m = ((i : Nat) : Int) ∧ m[i]? = some a ∧ a.e = x := by
      rcases idx_cases (fun a : Arr => decide (a.e = x)) m with ⟨_, hn⟩ | ⟨i, a, hi, ha, hp, _⟩
      · have := hn a0 ha0
        simp [hae0] at this
      · exact ⟨i, a, hi, ha, of_decide_eq_true hp⟩
    obtain ⟨i, a, hi, ha, hax⟩ := hidx
    have hres := simple h hn hl hrr hx ha hax
    rw [← hos, hsum] at hres
    have k1 := loop_overZ (R := List Tree) (Z := List AV × Heap → Option (List Tree)) (B := fun n z p again => L7_4 n p4 z p again) (s := (([.t (tI 0)], [.box [], bxE x]) : List AV × Heap)) m
      (fun i (_ : Unit) => (([.t (tI i)], [.box [], bxE x]) : List AV × Heap))
      (fun i _ b => if decide (b.e = x) = true then .done (i : Int) else .next ()) (fun _ => -1) (fun z (q : Int) => z ([.t (tI q)], [.box [], bxE x])) (fun _ _ => True) () rfl trivial (find_run0 _ m)
      (fun i u b hb hI => Ev.of fun n z again => ?_) (fun _ _ _ _ _ _ _ => trivial) (fun u hI => Ev.of fun n z again => ?_)
    · rw [hi] at k1
      refine k1.mono fun n hk again => ?_
      simp only [bxE] at hk
      have w1 : w64 (x.size + (1 + r)) = x.size + (1 + r) := w64_id (by omega) (by omega)
      have w2 : w64 (x.size + (1 + r) - 1) = x.size + (1 + r) - 1 := w64_id (by omega) (by omega)
      have w3 : w64 (durQ (1 + r) x) = durQ (1 + r) x := w64_id (by omega) (by omega)
      have w4 : w64 (now + sumD (1 + r) (q.take j) + durQ (1 + r) x) = now + (sumD (1 + r) (q.take j) + durQ (1 + r) x) := by rw [w64_id (by omega) (by omega)]; omega
      simp only [L7_6, J7_5, h1, h2, h3, vI_mk, vB_mk, vS_mk, vL_mk, sVer_mk, sOff_mk, sLen_mk, oVer_mk, oEs_mk, cI_mk, cB_mk, cS_mk, cL_mk, cVer_mk, cOff_mk, cLen_mk, gI_zero, gI_succ, gB_zero, gB_succ, gS_zero, gS_succ, gL_zero, gL_succ, okI_zero, okI_succ, okB_zero, okB_succ, okS_zero, okS_succ, okL_zero, okL_succ, isIntT_int, isBoolT_bool, isStrT_str, isSlT_sl, intOf_int, boolOf_bool, strOf_str, slOf_sl, treeOf_t, srVer_sref, srOff_sref, srLen_sref, ver_row, esOf_row, cellOf_box, aI_mk, aB_mk, aS_mk, aL_mk, aggOf_agg, join_eq, List.getD_cons_zero, List.getD_cons_succ, decide_true, decide_false, cnd_true, cnd_false, true_and, and_true, false_and, and_false, Option.bind_some, Option.bind_none, List.length_cons, List.length_nil, List.length_map, List.getElem?_map, Option.map_some, Option.map_none, Int.toNat_natCast, reduceCtorEq, eq_self, if_true, if_false, Nat.zero_add, Nat.reduceAdd, Nat.reduceEqDiff, Int.natCast_nonneg, List.drop_zero, or_true, true_or, or_false, false_or, Bool.not_true, Bool.not_false, Bool.false_eq_true, decide_eq_true_eq, ge_iff_le, gt_iff_lt, hx, Entry.enc, (show (j : Int) < (q.length : Int) by omega), hwr, (show ¬ (1 + r) = 0 by omega), hk, (show ¬ (i : Int) < 0 by omega), hres, encI, w1, w2, d3, w3, w4, bne_self_eq_false, w64_succ (show j < 4611686018427387904 by omega), Rd.go_next, hsum]
    · have hil := lt_of_some hb
      simp only [L7_4, h2, h3, h4, h5, h6, bxE, vI_mk, vB_mk, vS_mk, vL_mk, sVer_mk, sOff_mk, sLen_mk, oVer_mk, oEs_mk, cI_mk, cB_mk, cS_mk, cL_mk, cVer_mk, cOff_mk, cLen_mk, gI_zero, gI_succ, gB_zero, gB_succ, gS_zero, gS_succ, gL_zero, gL_succ, okI_zero, okI_succ, okB_zero, okB_succ, okS_zero, okS_succ, okL_zero, okL_succ, isIntT_int, isBoolT_bool, isStrT_str, isSlT_sl, intOf_int, boolOf_bool, strOf_str, slOf_sl, treeOf_t, srVer_sref, srOff_sref, srLen_sref, ver_row, esOf_row, cellOf_box, aI_mk, aB_mk, aS_mk, aL_mk, aggOf_agg, join_eq, List.getD_cons_zero, List.getD_cons_succ, decide_true, decide_false, cnd_true, cnd_false, true_and, and_true, false_and, and_false, Option.bind_some, Option.bind_none, List.length_cons, List.length_nil, List.length_map, List.getElem?_map, Option.map_some, Option.map_none, Int.toNat_natCast, reduceCtorEq, eq_self, if_true, if_false, Nat.zero_add, Nat.reduceAdd, Nat.reduceEqDiff, Int.natCast_nonneg, List.drop_zero, or_true, true_or, or_false, false_or, Bool.not_true, Bool.not_false, Bool.false_eq_true, decide_eq_true_eq, ge_iff_le, gt_iff_lt, hb, Arr.enc, (show (i : Int) < (m.length : Int) by omega), w64_succ (show i < 4611686018427387904 by omega)]
      by_cases hbx : b.e = x
      · simp only [hbx, beq_self_eq_true, Bool.and_self, vI_mk, vB_mk, vS_mk, vL_mk, sVer_mk, sOff_mk, sLen_mk, oVer_mk, oEs_mk, cI_mk, cB_mk, cS_mk, cL_mk, cVer_mk, cOff_mk, cLen_mk, gI_zero, gI_succ, gB_zero, gB_succ, gS_zero, gS_succ, gL_zero, gL_succ, okI_zero, okI_succ, okB_zero, okB_succ, okS_zero, okS_succ, okL_zero, okL_succ, isIntT_int, isBoolT_bool, isStrT_str, isSlT_sl, intOf_int, boolOf_bool, strOf_str, slOf_sl, treeOf_t, srVer_sref, srOff_sref, srLen_sref, ver_row, esOf_row, cellOf_box, aI_mk, aB_mk, aS_mk, aL_mk, aggOf_agg, join_eq, List.getD_cons_zero, List.getD_cons_succ, decide_true, decide_false, cnd_true, cnd_false, true_and, and_true, false_and, and_false, Option.bind_some, Option.bind_none, List.length_cons, List.length_nil, List.length_map, List.getElem?_map, Option.map_some, Option.map_none, Int.toNat_natCast, reduceCtorEq, eq_self, if_true, if_false, Nat.zero_add, Nat.reduceAdd, Nat.reduceEqDiff, Int.natCast_nonneg, List.drop_zero, or_true, true_or, or_false, false_or, Bool.not_true, Bool.not_false, Bool.false_eq_true, decide_eq_true_eq, ge_iff_le, gt_iff_lt, Rd.go_done]
      · have hf : ((((b.e.ticket == x.ticket) && (b.e.prio == x.prio)) && (b.e.exp == x.exp)) && (b.e.size == x.size)) = false := by
          rw [Bool.eq_false_iff]
          intro hh
          simp only [Bool.and_eq_true, beq_iff_eq] at hh
          apply hbx
          cases hb2 : b.e
          cases x
          rw [hb2] at hh
          simp_all
        simp only [hbx, hf, vI_mk, vB_mk, vS_mk, vL_mk, sVer_mk, sOff_mk, sLen_mk, oVer_mk, oEs_mk, cI_mk, cB_mk, cS_mk, cL_mk, cVer_mk, cOff_mk, cLen_mk, gI_zero, gI_succ, gB_zero, gB_succ, gS_zero, gS_succ, gL_zero, gL_succ, okI_zero, okI_succ, okB_zero, okB_succ, okS_zero, okS_succ, okL_zero, okL_succ, isIntT_int, isBoolT_bool, isStrT_str, isSlT_sl, intOf_int, boolOf_bool, strOf_str, slOf_sl, treeOf_t, srVer_sref, srOff_sref, srLen_sref, ver_row, esOf_row, cellOf_box, aI_mk, aB_mk, aS_mk, aL_mk, aggOf_agg, join_eq, List.getD_cons_zero, List.getD_cons_succ, decide_true, decide_false, cnd_true, cnd_false, true_and, and_true, false_and, and_false, Option.bind_some, Option.bind_none, List.length_cons, List.length_nil, List.length_map, List.getElem?_map, Option.map_some, Option.map_none, Int.toNat_natCast, reduceCtorEq, eq_self, if_true, if_false, Nat.zero_add, Nat.reduceAdd, Nat.reduceEqDiff, Int.natCast_nonneg, List.drop_zero, or_true, true_or, or_false, false_or, Bool.not_true, Bool.not_false, Bool.false_eq_true, decide_eq_true_eq, ge_iff_le, gt_iff_lt, Rd.go_next]
    · simp only [L7_4, h5, bxE, vI_mk, vB_mk, vS_mk, vL_mk, sVer_mk, sOff_mk, sLen_mk, oVer_mk, oEs_mk, cI_mk, cB_mk, cS_mk, cL_mk, cVer_mk, cOff_mk, cLen_mk, gI_zero, gI_succ, gB_zero, gB_succ, gS_zero, gS_succ, gL_zero, gL_succ, okI_zero, okI_succ, okB_zero, okB_succ, okS_zero, okS_succ, okL_zero, okL_succ, isIntT_int, isBoolT_bool, isStrT_str, isSlT_sl, intOf_int, boolOf_bool, strOf_str, slOf_sl, treeOf_t, srVer_sref, srOff_sref, srLen_sref, ver_row, esOf_row, cellOf_box, aI_mk, aB_mk, aS_mk, aL_mk, aggOf_agg, join_eq, List.getD_cons_zero, List.getD_cons_succ, decide_true, decide_false, cnd_true, cnd_false, true_and, and_true, false_and, and_false, Option.bind_some, Option.bind_none, List.length_cons, List.length_nil, List.length_map, List.getElem?_map, Option.map_some, Option.map_none, Int.toNat_natCast, reduceCtorEq, eq_self, if_true, if_false, Nat.zero_add, Nat.reduceAdd, Nat.reduceEqDiff, Int.natCast_nonneg, List.drop_zero, or_true, true_or, or_false, false_or, Bool.not_true, Bool.not_false, Bool.false_eq_true, decide_eq_true_eq, ge_iff_le, gt_iff_lt, Int.lt_irrefl]
  · refine s12.mono fun n hk again => ?_
    simp only [L7_6, h1, vI_mk, vB_mk, vS_mk, vL_mk, sVer_mk, sOff_mk, sLen_mk, oVer_mk, oEs_mk, cI_mk, cB_mk, cS_mk, cL_mk, cVer_mk, cOff_mk, cLen_mk, gI_zero, gI_succ, gB_zero, gB_succ, gS_zero, gS_succ, gL_zero, gL_succ, okI_zero, okI_succ, okB_zero, okB_succ, okS_zero, okS_succ, okL_zero, okL_succ, isIntT_int, isBoolT_bool, isStrT_str, isSlT_sl, intOf_int, boolOf_bool, strOf_str, slOf_sl, treeOf_t, srVer_sref, srOff_sref, srLen_sref, ver_row, esOf_row, cellOf_box, aI_mk, aB_mk, aS_mk, aL_mk, aggOf_agg, join_eq, List.getD_cons_zero, List.getD_cons_succ, decide_true, decide_false, cnd_true, cnd_false, true_and, and_true, false_and, and_false, Option.bind_some, Option.bind_none, List.length_cons, List.length_nil, List.length_map, List.getElem?_map, Option.map_some, Option.map_none, Int.toNat_natCast, reduceCtorEq, eq_self, if_true, if_false, Nat.zero_add, Nat.reduceAdd, Nat.reduceEqDiff, Int.natCast_nonneg, List.drop_zero, or_true, true_or, or_false, false_or, Bool.not_true, Bool.not_false, Bool.false_eq_true, decide_eq_true_eq, ge_iff_le, gt_iff_lt, Int.lt_irrefl, hk]
theorem law7 (l : List Entry) (now r : Int) (hn : 0 ≤ now ∧ now ≤ 65535) (hr : 0 ≤ r ∧ r ≤ 255) : Runs C 7 [.sl 4 (l.map Entry.enc), .int .u16 now, .int .u8 r] [.bool true] := by
  refine Runs.of (fun n => e7 n _ _ _) ?_
  have hwr : w64 (1 + w64 r) = 1 + r := by rw [w64_id (x := r) (by omega) (by omega), w64_id (by omega) (by omega)]
  have hwn : w64 now = now := w64_id (by omega) (by omega)
  by_cases hl : l.length ≤ 12
  · simp only [vI_mk, vB_mk, vS_mk, vL_mk, sVer_mk, sOff_mk, sLen_mk, oVer_mk, oEs_mk, cI_mk, cB_mk, cS_mk, cL_mk, cVer_mk, cOff_mk, cLen_mk, gI_zero, gI_succ, gB_zero, gB_succ, gS_zero, gS_succ, gL_zero, gL_succ, okI_zero, okI_succ, okB_zero, okB_succ, okS_zero, okS_succ, okL_zero, okL_succ, isIntT_int, isBoolT_bool, isStrT_str, isSlT_sl, intOf_int, boolOf_bool, strOf_str, slOf_sl, treeOf_t, srVer_sref, srOff_sref, srLen_sref, ver_row, esOf_row, cellOf_box, aI_mk, aB_mk, aS_mk, aL_mk, aggOf_agg, join_eq, List.getD_cons_zero, List.getD_cons_succ, decide_true, decide_false, cnd_true, cnd_false, true_and, and_true, false_and, and_false, Option.bind_some, Option.bind_none, List.length_cons, List.length_nil, List.length_map, List.getElem?_map, Option.map_some, Option.map_none, Int.toNat_natCast, reduceCtorEq, eq_self, if_true, if_false, Nat.zero_add, Nat.reduceAdd, Nat.reduceEqDiff, Int.natCast_nonneg, List.drop_zero, or_true, true_or, or_false, false_or, Bool.not_true, Bool.not_false, Bool.false_eq_true, decide_eq_true_eq, ge_iff_le, gt_iff_lt, (show ¬ (12 : Int) < (l.length : Int) by omega)]
    refine loop_overQ (fun b => [Tree.bool b]) l (fun i (s : List Entry × List Arr) => (([.t (.sl 4 (s.1.map Entry.enc)), .sref 0 s.2.length 0 s.2.length, .t (tI i)], [.row false s.2.length 5 (s.2.map Arr.enc)]) : List AV × Heap)) (fun i s x => .next (smStep now s x)) (fun _ => true)
      (fun i s => SimpleM now s.1 s.2 ∧ s.2.length ≤ i) ([], []) rfl ⟨⟨GoodQ.nil, by simp, by simp, by simp⟩, by simp⟩ (runL_fold (smStep now) (fun _ => true) 0 l ([], []))
      (fun i s x hx hI => ?_) (fun i s x s' hx hI hs' => ?_) (fun s hI => ?_)
    · have hi := lt_of_some hx
      obtain ⟨i1, i2⟩ := hI
      have hpl := i1.perm.length_eq
      rw [List.length_map] at hpl
      refine (s17 s.1 (fixE x) (by omega)).mono fun n h again => ?_
      have e1 : List.take s.2.length (s.2.map Arr.enc) = s.2.map Arr.enc := List.take_of_length_le (by simp)
      simp only [Entry.enc, fixE] at h
      unfold smStep
      simp only [L7_7, vI_mk, vB_mk, vS_mk, vL_mk, sVer_mk, sOff_mk, sLen_mk, oVer_mk, oEs_mk, cI_mk, cB_mk, cS_mk, cL_mk, cVer_mk, cOff_mk, cLen_mk, gI_zero, gI_succ, gB_zero, gB_succ, gS_zero, gS_succ, gL_zero, gL_succ, okI_zero, okI_succ, okB_zero, okB_succ, okS_zero, okS_succ, okL_zero, okL_succ, isIntT_int, isBoolT_bool, isStrT_str, isSlT_sl, intOf_int, boolOf_bool, strOf_str, slOf_sl, treeOf_t, srVer_sref, srOff_sref, srLen_sref, ver_row, esOf_row, cellOf_box, aI_mk, aB_mk, aS_mk, aL_mk, aggOf_agg, join_eq, List.getD_cons_zero, List.getD_cons_succ, decide_true, decide_false, cnd_true, cnd_false, true_and, and_true, false_and, and_false, Option.bind_some, Option.bind_none, List.length_cons, List.length_nil, List.length_map, List.getElem?_map, Option.map_some, Option.map_none, Int.toNat_natCast, reduceCtorEq, eq_self, if_true, if_false, Nat.zero_add, Nat.reduceAdd, Nat.reduceEqDiff, Int.natCast_nonneg, List.drop_zero, or_true, true_or, or_false, false_or, Bool.not_true, Bool.not_false, Bool.false_eq_true, decide_eq_true_eq, ge_iff_le, gt_iff_lt, hx, Entry.enc, (show (i : Int) < (l.length : Int) by omega), h, hwn]
      by_cases h0 : (pushQ s.1 (fixE x)).2 = 0
      · have hbe : ((pushQ s.1 (fixE x)).2 == 0) = true := by simpa using h0
        simp only [fixE] at hbe h0
        simp only [fixE, h0, hbe, vI_mk, vB_mk, vS_mk, vL_mk, sVer_mk, sOff_mk, sLen_mk, oVer_mk, oEs_mk, cI_mk, cB_mk, cS_mk, cL_mk, cVer_mk, cOff_mk, cLen_mk, gI_zero, gI_succ, gB_zero, gB_succ, gS_zero, gS_succ, gL_zero, gL_succ, okI_zero, okI_succ, okB_zero, okB_succ, okS_zero, okS_succ, okL_zero, okL_succ, isIntT_int, isBoolT_bool, isStrT_str, isSlT_sl, intOf_int, boolOf_bool, strOf_str, slOf_sl, treeOf_t, srVer_sref, srOff_sref, srLen_sref, ver_row, esOf_row, cellOf_box, aI_mk, aB_mk, aS_mk, aL_mk, aggOf_agg, join_eq, List.getD_cons_zero, List.getD_cons_succ, decide_true, decide_false, cnd_true, cnd_false, true_and, and_true, false_and, and_false, Option.bind_some, Option.bind_none, List.length_cons, List.length_nil, List.length_map, List.getElem?_map, Option.map_some, Option.map_none, Int.toNat_natCast, reduceCtorEq, eq_self, if_true, if_false, Nat.zero_add, Nat.reduceAdd, Nat.reduceEqDiff, Int.natCast_nonneg, List.drop_zero, or_true, true_or, or_false, false_or, Bool.not_true, Bool.not_false, Bool.false_eq_true, decide_eq_true_eq, ge_iff_le, gt_iff_lt, Nat.le_refl, (show s.2.length + 1 ≤ 1073741824 by omega), e1, w64_succ (show i < 4611686018427387904 by omega), Rd.go_next, List.map_append, List.map_cons, List.map_nil, List.length_append, Arr.enc, beq_self_eq_true]
      · have hbe : ((pushQ s.1 (fixE x)).2 == 0) = false := by simpa using h0
        simp only [fixE] at hbe h0
        simp only [fixE, h0, hbe, vI_mk, vB_mk, vS_mk, vL_mk, sVer_mk, sOff_mk, sLen_mk, oVer_mk, oEs_mk, cI_mk, cB_mk, cS_mk, cL_mk, cVer_mk, cOff_mk, cLen_mk, gI_zero, gI_succ, gB_zero, gB_succ, gS_zero, gS_succ, gL_zero, gL_succ, okI_zero, okI_succ, okB_zero, okB_succ, okS_zero, okS_succ, okL_zero, okL_succ, isIntT_int, isBoolT_bool, isStrT_str, isSlT_sl, intOf_int, boolOf_bool, strOf_str, slOf_sl, treeOf_t, srVer_sref, srOff_sref, srLen_sref, ver_row, esOf_row, cellOf_box, aI_mk, aB_mk, aS_mk, aL_mk, aggOf_agg, join_eq, List.getD_cons_zero, List.getD_cons_succ, decide_true, decide_false, cnd_true, cnd_false, true_and, and_true, false_and, and_false, Option.bind_some, Option.bind_none, List.length_cons, List.length_nil, List.length_map, List.getElem?_map, Option.map_some, Option.map_none, Int.toNat_natCast, reduceCtorEq, eq_self, if_true, if_false, Nat.zero_add, Nat.reduceAdd, Nat.reduceEqDiff, Int.natCast_nonneg, List.drop_zero, or_true, true_or, or_false, false_or, Bool.not_true, Bool.not_false, Bool.false_eq_true, decide_eq_true_eq, ge_iff_le, gt_iff_lt, w64_succ (show i < 4611686018427387904 by omega), Rd.go_next]
    · obtain ⟨i1, i2⟩ := hI
      simp only [Rd.next.injEq] at hs'
      subst hs'
      obtain ⟨j1, j2⟩ := i1.step x
      exact ⟨j1, by omega⟩
    · obtain ⟨q, m⟩ := s
      obtain ⟨i1, i2⟩ := hI
      simp only at i1 i2
      have hpl := i1.perm.length_eq
      rw [List.length_map] at hpl
      have hga := i1.good_a hn
      have hrr : 1 ≤ 1 + r ∧ 1 + r ≤ 1000 := by omega
      have hs : servR m (1 + r) = (serveQ m (1 + r), 0) := by unfold servR; rw [if_neg (by simp [checkR_zero.2 ⟨hrr, hga⟩])]
      have h13 := s13 m (1 + r) (by omega)
      rw [hs] at h13
      have hlen := serve_len hga hrr
      have k := o7 q m now i1 hn (by omega) r hr (serveQ m (1 + r)) rfl ([.t (.sl 4 (q.map Entry.enc)), .sref 0 m.length 0 m.length, .t (tI l.length)], [.row false m.length 5 (m.map Arr.enc)]) rfl rfl rfl rfl rfl rfl
      have e1 : List.take m.length (m.map Arr.enc) = m.map Arr.enc := List.take_of_length_le (by simp)
      refine (h13.and k).mono fun n h again => ?_
      obtain ⟨h1, h2⟩ := h
      simp only [L7_7, vI_mk, vB_mk, vS_mk, vL_mk, sVer_mk, sOff_mk, sLen_mk, oVer_mk, oEs_mk, cI_mk, cB_mk, cS_mk, cL_mk, cVer_mk, cOff_mk, cLen_mk, gI_zero, gI_succ, gB_zero, gB_succ, gS_zero, gS_succ, gL_zero, gL_succ, okI_zero, okI_succ, okB_zero, okB_succ, okS_zero, okS_succ, okL_zero, okL_succ, isIntT_int, isBoolT_bool, isStrT_str, isSlT_sl, intOf_int, boolOf_bool, strOf_str, slOf_sl, treeOf_t, srVer_sref, srOff_sref, srLen_sref, ver_row, esOf_row, cellOf_box, aI_mk, aB_mk, aS_mk, aL_mk, aggOf_agg, join_eq, List.getD_cons_zero, List.getD_cons_succ, decide_true, decide_false, cnd_true, cnd_false, true_and, and_true, false_and, and_false, Option.bind_some, Option.bind_none, List.length_cons, List.length_nil, List.length_map, List.getElem?_map, Option.map_some, Option.map_none, Int.toNat_natCast, reduceCtorEq, eq_self, if_true, if_false, Nat.zero_add, Nat.reduceAdd, Nat.reduceEqDiff, Int.natCast_nonneg, List.drop_zero, or_true, true_or, or_false, false_or, Bool.not_true, Bool.not_false, Bool.false_eq_true, decide_eq_true_eq, ge_iff_le, gt_iff_lt, Int.lt_irrefl, e1, hwr, h1, bne_self_eq_false, hlen, hwn]
      exact h2
  · refine s12.mono fun n h => ?_
    simp only [vI_mk, vB_mk, vS_mk, vL_mk, sVer_mk, sOff_mk, sLen_mk, oVer_mk, oEs_mk, cI_mk, cB_mk, cS_mk, cL_mk, cVer_mk, cOff_mk, cLen_mk, gI_zero, gI_succ, gB_zero, gB_succ, gS_zero, gS_succ, gL_zero, gL_succ, okI_zero, okI_succ, okB_zero, okB_succ, okS_zero, okS_succ, okL_zero, okL_succ, isIntT_int, isBoolT_bool, isStrT_str, isSlT_sl, intOf_int, boolOf_bool, strOf_str, slOf_sl, treeOf_t, srVer_sref, srOff_sref, srLen_sref, ver_row, esOf_row, cellOf_box, aI_mk, aB_mk, aS_mk, aL_mk, aggOf_agg, join_eq, List.getD_cons_zero, List.getD_cons_succ, decide_true, decide_false, cnd_true, cnd_false, true_and, and_true, false_and, and_false, Option.bind_some, Option.bind_none, List.length_cons, List.length_nil, List.length_map, List.getElem?_map, Option.map_some, Option.map_none, Int.toNat_natCast, reduceCtorEq, eq_self, if_true, if_false, Nat.zero_add, Nat.reduceAdd, Nat.reduceEqDiff, Int.natCast_nonneg, List.drop_zero, or_true, true_or, or_false, false_or, Bool.not_true, Bool.not_false, Bool.false_eq_true, decide_eq_true_eq, ge_iff_le, gt_iff_lt, (show (12 : Int) < (l.length : Int) by omega), h]
end Ab
