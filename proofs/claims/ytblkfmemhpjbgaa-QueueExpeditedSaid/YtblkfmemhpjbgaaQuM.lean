/- Queue: the program's order of what waits does not matter. -/
import Derived.Test.YtblkfmemhpjbgaaQuL
set_option linter.unusedVariables false
set_option linter.unusedSimpArgs false
set_option maxHeartbeats 1000000
namespace Ab
open Go


/-- All entries that are still to be sent. -/
def allQ (s : QS) : List Entry := s.wait ++ ((if s.busy = true then [s.now] else []) ++ s.co.map Arr.e)
structure SysQ (l : List Arr) (s : QS) : Prop where
  dis : (allQ s).Pairwise fun a b => a.ticket ≠ b.ticket
  mem : ∀ x ∈ allQ s, ∃ a ∈ l, a.e = x
  srt : s.wait.Pairwise fun a b => ahead a b = true
structure Sim (s p : QS) : Prop where
  co : p.co = s.co
  now : p.now = s.now
  fin : p.fin = s.fin
  busy : p.busy = s.busy
  out : p.out = s.out
  wait : p.wait.Perm s.wait
theorem Sim.refl (s : QS) : Sim s s := ⟨rfl, rfl, rfl, rfl, rfl, List.Perm.refl _⟩
theorem Sim.mid {l : List Arr} {s p : QS} (h : Sim s p) (hs : QMid l s) : QMid l p := by
  refine ⟨?_, by rw [h.out]; exact hs.out, ?_, fun x hx => hs.wv x (h.wait.mem_iff.1 hx), fun hb => ?_⟩
  · rw [h.co]; exact hs.co
  · rw [h.wait.length_eq, h.busy, h.co]; exact hs.wl
  · rw [h.now]; exact hs.nv (by rw [← h.busy]; exact hb)
theorem insQ_perm (x : Entry) (w : List Entry) : (insQ x w).Perm (x :: w) := by
  rw [insQ_tw]
  refine List.perm_middle.trans ?_
  rw [List.takeWhile_append_dropWhile]
theorem insQ_srt {x : Entry} {w : List Entry} (h : w.Pairwise fun a b => ahead a b = true) (hd : ∀ y ∈ w, y.ticket ≠ x.ticket) : (insQ x w).Pairwise fun a b => ahead a b = true := by
  unfold insQ
  refine insB_pairwise h (fun y hy hn => ?_) (fun y hy hn => ?_) (fun a ha b hb hab hn => ?_)
  · have hna : ahead y x = false := by simpa using hn
    rcases ahead_tri (hd y hy) with h | h
    · rw [hna] at h; cases h
    · exact h
  · simpa using hn
  · have hna : ahead a x = false := by simpa using hn
    cases hbx : ahead b x with
    | false => rfl
    | true => rw [ahead_tr hab hbx] at hna; cases hna
theorem insF_perm : ∀ (c : List Arr) (w : List Entry), (c.foldl (fun w a => insQ a.e w) w).Perm (w ++ c.map Arr.e)
  | [], w => by simp
  | a :: c, w => by
    rw [List.foldl_cons]
    refine (insF_perm c (insQ a.e w)).trans ?_
    rw [List.map_cons]
    refine ((insQ_perm a.e w).append_right _).trans ?_
    simpa using (List.perm_middle (a := a.e) (l₁ := w) (l₂ := c.map Arr.e)).symm
theorem insF_srt : ∀ (c : List Arr) (w : List Entry), (w.Pairwise fun a b => ahead a b = true) → ((w ++ c.map Arr.e).Pairwise fun a b => a.ticket ≠ b.ticket) → (c.foldl (fun w a => insQ a.e w) w).Pairwise fun a b => ahead a b = true
  | [], w, h, _ => h
  | a :: c, w, h, hd => by
    rw [List.foldl_cons]
    have hd' := List.pairwise_append.1 hd
    refine insF_srt c (insQ a.e w) (insQ_srt h fun y hy => hd'.2.2 y hy a.e (by simp)) ?_
    refine ((((insQ_perm a.e w).append_right (c.map Arr.e)).trans ?_).pairwise_iff fun h => Ne.symm h).2 hd
    simpa using (List.perm_middle (a := a.e) (l₁ := w) (l₂ := c.map Arr.e)).symm
theorem SysQ.of {l : List Arr} {s s' : QS} (h : SysQ l s) (m m' : List Entry) (h1 : (allQ s').Perm m) (h2 : m.Sublist m') (h3 : m'.Perm (allQ s)) (hs : s'.wait.Pairwise fun a b => ahead a b = true) : SysQ l s' :=
  ⟨(h1.pairwise_iff fun h => Ne.symm h).2 (((h3.pairwise_iff fun h => Ne.symm h).2 h.dis).sublist h2), fun x hx => h.mem x (h3.mem_iff.1 (h2.subset (h1.mem_iff.1 hx))), hs⟩
theorem SysQ.end {l : List Arr} {s : QS} (h : SysQ l s) (t : Int) : SysQ l (endQ l t s) := by
  unfold endQ
  split
  · rename_i hb
    refine h.of _ (allQ s) (List.Perm.refl _) ?_ (List.Perm.refl _) h.srt
    simp only [allQ, Bool.false_eq_true, if_false, hb.1, if_true, List.nil_append]
    exact List.Sublist.append (List.Sublist.refl _) (List.sublist_append_right _ _)
  · exact h
theorem SysQ.take {l : List Arr} {s : QS} (h : SysQ l s) (t : Int) : SysQ l (takeQ t s) := by
  have hsp : s.co.map Arr.e = (s.co.takeWhile fun a => decide (a.at_ = t)).map Arr.e ++ (s.co.dropWhile fun a => decide (a.at_ = t)).map Arr.e := by
    rw [← List.map_append, List.takeWhile_append_dropWhile]
  refine h.of (allQ s) (allQ s) ?_ (List.Sublist.refl _) (List.Perm.refl _) ?_
  · simp only [allQ, takeQ]
    rw [hsp]
    refine ((insF_perm _ _).append_right _).trans ?_
    rw [List.append_assoc]
    refine List.Perm.append_left _ ?_
    rw [← List.append_assoc, ← List.append_assoc]
    exact List.Perm.append_right _ List.perm_append_comm
  · refine insF_srt _ _ h.srt ?_
    have hd := h.dis
    unfold allQ at hd
    rw [hsp] at hd
    refine hd.sublist (List.Sublist.append (List.Sublist.refl _) ?_)
    exact (List.sublist_append_left _ _).trans (List.sublist_append_right _ _)
theorem SysQ.exp {l : List Arr} {s : QS} (h : SysQ l s) (t : Int) : SysQ l (expQ t s) :=
  h.of _ (allQ s) (List.Perm.refl _) (List.Sublist.append List.filter_sublist (List.Sublist.refl _)) (List.Perm.refl _) (h.srt.sublist List.filter_sublist)
theorem SysQ.now_ne {l : List Arr} {s : QS} (h : SysQ l s) (hb : s.busy = true) : ∀ y ∈ s.wait, y.ticket ≠ s.now.ticket := by
  have := h.dis
  unfold allQ at this
  rw [hb, if_pos rfl] at this
  exact fun y hy => (List.pairwise_append.1 this).2.2 y hy s.now (by simp)
theorem SysQ.pre {l : List Arr} {s : QS} (h : SysQ l s) (t : Int) : SysQ l (preQ t s) := by
  unfold preQ
  split
  · rename_i x r hw
    split
    · rename_i hb
      have hne := h.now_ne hb.1
      refine h.of ((s.now :: s.wait).filter (fun x => decide (x.exp > t)) ++ s.co.map Arr.e) ((s.now :: s.wait) ++ s.co.map Arr.e) ?_ (List.Sublist.append List.filter_sublist (List.Sublist.refl _)) ?_ ((insQ_srt h.srt hne).sublist List.filter_sublist)
      · simp only [allQ, Bool.false_eq_true, if_false, List.nil_append]
        exact ((insQ_perm s.now s.wait).filter _).append_right _
      · simp only [allQ, hb.1, if_true]
        simpa using (List.perm_middle (a := s.now) (l₁ := s.wait) (l₂ := s.co.map Arr.e)).symm
    · exact h
  · exact h
theorem SysQ.beg {l : List Arr} {s : QS} (h : SysQ l s) (rate t : Int) : SysQ l (begQ rate t s) := by
  unfold begQ
  split
  · exact h
  · rename_i hb
    split
    · exact h
    · rename_i x r hw
      have hsr := h.srt
      rw [hw] at hsr
      refine h.of (x :: (r ++ s.co.map Arr.e)) (allQ s) ?_ (by simp [allQ, hb, hw]) (List.Perm.refl _) (List.pairwise_cons.1 hsr).2
      simp only [allQ, if_true]
      simp
theorem SysQ.step {l : List Arr} {s : QS} (h : SysQ l s) (rate t : Int) : SysQ l (stepQ l rate t s) := ((((h.end t).take t).exp t).pre t).beg rate t
theorem SysQ.start {l : List Arr} (hg : GoodA l) : SysQ l (startQ l) := by
  refine ⟨?_, fun x hx => ?_, by simp [startQ]⟩
  · simp only [allQ, startQ, Bool.false_eq_true, if_false, List.nil_append]
    rw [List.pairwise_map]
    exact hg.dis
  · simp only [allQ, startQ, Bool.false_eq_true, if_false, List.nil_append, List.mem_map] at hx
    exact hx

/-! ### the simulation -/
theorem Sim.end {l : List Arr} {s p : QS} (h : Sim s p) (t : Int) : Sim (endQ l t s) (endQ l t p) := by
  unfold endQ
  rw [h.busy, h.fin]
  split
  · exact ⟨h.co, h.now, rfl, rfl, by simp only [h.now, h.out], h.wait⟩
  · exact h
theorem Sim.take {s p : QS} (h : Sim s p) (t : Int) : Sim (takeQ t s) (takeP t p) := by
  refine ⟨by simp only [takeQ, takeP, h.co], h.now, h.fin, h.busy, h.out, ?_⟩
  simp only [takeQ, takeP, h.co]
  exact (h.wait.append_right _).trans (insF_perm _ _).symm
theorem Sim.exp {s p : QS} (h : Sim s p) (t : Int) : Sim (expQ t s) (expQ t p) := ⟨h.co, h.now, h.fin, h.busy, h.out, h.wait.filter _⟩
def headAny : List Entry → Entry → Bool
  | [], _ => false
  | x :: _, y => decide (Ab.pre x y)
theorem pre_any {w : List Entry} (hs : w.Pairwise fun a b => ahead a b = true) (hv : ∀ x ∈ w, ValidE x) (y : Entry) : (w.any fun x => decide (pre x y)) = headAny w y := by
  cases w with
  | nil => rfl
  | cons x r =>
    rw [List.pairwise_cons] at hs
    rw [Bool.eq_iff_iff, List.any_eq_true]
    constructor
    · rintro ⟨z, hz, hp⟩
      rcases List.mem_cons.1 hz with rfl | hz
      · exact hp
      · have h1 := hs.1 z hz
        have h2 := hv x (by simp)
        obtain ⟨p1, p2⟩ := of_decide_eq_true hp
        unfold ahead at h1
        unfold ValidE at h2
        simp only [decide_eq_true_eq] at h1
        exact decide_eq_true ⟨by omega, p2⟩
    · intro hp
      exact ⟨x, by simp, hp⟩
theorem Sim.pre {s p : QS} (h : Sim s p) (hs : s.wait.Pairwise fun a b => ahead a b = true) (hv : ∀ x ∈ s.wait, ValidE x) (t : Int) : Sim (preQ t s) (preP t p) := by
  have hany : (p.wait.any fun x => decide (Ab.pre x p.now)) = headAny s.wait s.now := by
    rw [← pre_any hs hv s.now, h.now, Bool.eq_iff_iff, List.any_eq_true, List.any_eq_true]
    constructor
    · rintro ⟨z, hz, hp⟩; exact ⟨z, h.wait.mem_iff.1 hz, hp⟩
    · rintro ⟨z, hz, hp⟩; exact ⟨z, h.wait.mem_iff.2 hz, hp⟩
  unfold preQ preP
  rw [hany]
  cases hw : s.wait with
  | nil =>
    simp only [headAny, Bool.false_eq_true, and_false, if_false]
    exact h
  | cons x r =>
    simp only [headAny, decide_eq_true_eq, h.busy]
    split
    · refine ⟨h.co, h.now, h.fin, rfl, h.out, ?_⟩
      simp only
      refine List.Perm.filter _ ?_
      rw [h.now]
      refine List.Perm.trans ?_ (insQ_perm s.now (x :: r)).symm
      rw [← hw]
      exact List.perm_append_singleton _ _ |>.trans (h.wait.cons _)
    · exact h
theorem minE_least : ∀ (w : List Entry) (m : Entry), (∀ z, z = m ∨ z ∈ w → ahead z (w.foldl (fun m y => if ahead y m = true then y else m) m) = false)
  | [], m => fun z hz => by
    rcases hz with rfl | hz
    · exact ahead_irr _
    · simp at hz
  | y :: w, m => fun z hz => by
    rw [List.foldl_cons]
    by_cases hy : ahead y m = true
    · rw [if_pos hy]
      have ih := minE_least w y
      rcases hz with rfl | hz
      · cases hc : ahead z (w.foldl (fun m y => if ahead y m = true then y else m) y) with
        | false => rfl
        | true =>
          have := ih y (.inl rfl)
          rw [ahead_tr hy hc] at this
          cases this
      · rcases List.mem_cons.1 hz with rfl | hz
        · exact ih _ (.inl rfl)
        · exact ih _ (.inr hz)
    · rw [if_neg hy]
      have ih := minE_least w m
      rcases hz with rfl | hz
      · exact ih _ (.inl rfl)
      · rcases List.mem_cons.1 hz with rfl | hz
        · cases hc : ahead z (w.foldl (fun m y => if ahead y m = true then y else m) m) with
          | false => rfl
          | true =>
            rcases minE_mem w m with he | he
            · rw [he] at hc; exact absurd hc hy
            · have h1 := ih m (.inl rfl)
              by_cases ht : m.ticket = z.ticket
              · -- the same ticket: compare directly
                exfalso
                have h2 := ih _ (.inr he)
                generalize w.foldl (fun m y => if ahead y m = true then y else m) m = q at *
                have hy' : ahead z m = false := by simpa using hy
                unfold ahead at hc h1 hy'
                simp only [decide_eq_true_eq, decide_eq_false_iff_not] at hc h1 hy'
                omega
              · exfalso
                generalize w.foldl (fun m y => if ahead y m = true then y else m) m = q at *
                have hy' : ahead z m = false := by simpa using hy
                unfold ahead at hc h1 hy'
                simp only [decide_eq_true_eq, decide_eq_false_iff_not] at hc h1 hy'
                omega
        · exact ih _ (.inr hz)
theorem minE_head {w : List Entry} {x : Entry} {r : List Entry} (hp : w.Perm (x :: r)) (hs : (x :: r).Pairwise fun a b => ahead a b = true) : minE w = x := by
  have hne : w ≠ [] := fun h => by rw [h] at hp; have := hp.length_eq; simp at this
  have hm : minE w ∈ x :: r := hp.mem_iff.1 (minE_in hne)
  rcases List.mem_cons.1 hm with h | h
  · exact h
  · have h1 := (List.pairwise_cons.1 hs).1 _ h
    have hx : x ∈ w := hp.mem_iff.2 (by simp)
    cases w with
    | nil => exact absurd rfl hne
    | cons a w =>
      have h2 := minE_least w a x (by rcases List.mem_cons.1 hx with h | h; exact .inl h; exact .inr h)
      have h1' : ahead x (w.foldl (fun m y => if ahead y m = true then y else m) a) = true := h1
      rw [h2] at h1'
      cases h1'
theorem Sim.beg {s p : QS} (h : Sim s p) (hs : s.wait.Pairwise fun a b => ahead a b = true) (hd : s.wait.Pairwise fun a b => a.ticket ≠ b.ticket) (rate t : Int) : Sim (begQ rate t s) (begP rate t p) := by
  cases hb : s.busy with
  | true =>
    have e1 : begQ rate t s = s := by unfold begQ; rw [if_pos hb]
    have e2 : begP rate t p = p := by unfold begP; rw [if_pos (.inl (by rw [h.busy, hb]))]
    rw [e1, e2]
    exact h
  | false =>
    have hpb : p.busy = false := by rw [h.busy, hb]
    cases hw : s.wait with
    | nil =>
      have hpw : p.wait = [] := by have := h.wait.length_eq; rw [hw] at this; exact List.eq_nil_of_length_eq_zero this
      have e1 : begQ rate t s = s := by unfold begQ; rw [if_neg (by simp [hb]), hw]
      have e2 : begP rate t p = p := by unfold begP; rw [if_pos (.inr hpw)]
      rw [e1, e2]
      exact h
    | cons x r =>
      have hp := h.wait
      rw [hw] at hp hs hd
      have hne : p.wait ≠ [] := fun h => by rw [h] at hp; have := hp.length_eq; simp at this
      have hm := minE_head hp hs
      have e1 : begQ rate t s = { s with now := x, wait := r, busy := true, fin := t + durQ rate x } := by unfold begQ; rw [if_neg (by simp [hb]), hw]
      have e2 : begP rate t p = { p with now := x, wait := removeQ p.wait x.ticket, busy := true, fin := t + durQ rate x } := by unfold begP; rw [if_neg (by simp [hpb, hne]), hm]
      rw [e1, e2]
      refine ⟨h.co, rfl, rfl, rfl, h.out, ?_⟩
      simp only [removeQ]
      refine (hp.filter _).trans ?_
      rw [List.filter_cons_of_neg (by simp), List.filter_eq_self.2]
      intro y hy
      have := (List.pairwise_cons.1 hd).1 y hy
      simpa using fun h => this h.symm
theorem SysQ.wd {l : List Arr} {s : QS} (h : SysQ l s) : s.wait.Pairwise fun a b => a.ticket ≠ b.ticket := h.dis.sublist (List.sublist_append_left _ _)
theorem Sim.step {l : List Arr} (hg : GoodA l) {s p : QS} (h : Sim s p) (hs : SysQ l s) (hm : QMid l s) (rate t : Int) : Sim (stepQ l rate t s) (stepP l rate t p) := by
  unfold stepQ stepP
  have s2 := ((hs.end t).take t).exp t
  have m2 := ((hm.end t).take hg t).exp t
  have s3 := s2.pre t
  exact ((((h.end t).take t).exp t).pre s2.srt m2.wv t).beg s3.srt s3.wd rate t
end Ab
