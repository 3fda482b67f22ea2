/- Booking: fitting; the law of fitting. -/
import Derived.Test.YtlgphbnkicihgaaBkE
set_option linter.unusedVariables false
set_option linter.unusedSimpArgs false
namespace Ab
open Go

/-! ### what valid bookings are -/
theorem runL_zero {α : Type} {step : Nat → Unit → α → Rd Unit Int} (hd : ∀ i x r, step i () x = .done r → r ≠ 0) : ∀ (l : List α) (i : Nat), runL step (fun _ => 0) i l () = 0 → ∀ j x, l[j]? = some x → step (i + j) () x = .next ()
  | [], i, _, j, x, hx => by simp at hx
  | y :: l, i, h, j, x, hx => by
    simp only [runL] at h
    cases hs : step i () y with
    | done r => rw [hs] at h; exact (hd i y r hs h).elim
    | next s =>
      rw [hs] at h
      cases j with
      | zero => simp at hx; subst hx; exact hs
      | succ j =>
        have := runL_zero hd l (i + 1) h j x (by simpa using hx)
        rwa [show i + 1 + j = i + (j + 1) by omega] at this

theorem pairwise_of_next {α : Type} {R : α → α → Prop} (ht : ∀ a b c, R a b → R b c → R a c) : ∀ (l : List α), (∀ j a b, l[j]? = some a → l[j + 1]? = some b → R a b) → l.Pairwise R
  | [], _ => .nil
  | x :: l, h => by
    have ih := pairwise_of_next ht l fun j a b ha hb => h (j + 1) a b (by simpa using ha) (by simpa using hb)
    refine .cons (fun y hy => ?_) ih
    cases l with
    | nil => simp at hy
    | cons z l =>
      have hxz : R x z := h 0 x z rfl rfl
      rcases List.mem_cons.1 hy with rfl | hy
      · exact hxz
      · cases ih with
        | cons h1 h2 => exact ht x z y hxz (h1 y hy)

def BRel (a b : Booking) : Prop := a.contact < b.contact ∨ a.contact = b.contact ∧ a.stop ≤ b.beg ∧ b.beg < b.stop
structure BookOk (cs : List Contact) (l : List Booking) : Prop where
  valid : ∀ b ∈ l, validB cs b = true
  sorted : l.Pairwise BRel
theorem valid_ok {cs : List Contact} {b : Booking} (h : validB cs b = true) : 0 ≤ b.contact ∧ b.contact < cs.length ∧ 0 ≤ b.ticket ∧ b.ticket ≤ 1152921504606846976 ∧ ∀ c, cs[b.contact.toNat]? = some c → c.start ≤ b.beg ∧ b.beg < b.stop ∧ b.stop ≤ c.stop := by
  simp only [validB] at h
  split at h
  · cases h
  · refine ⟨by omega, by omega, by omega, by omega, fun c hc => ?_⟩
    rw [hc] at h
    simpa using h
theorem valid_lt {cs : List Contact} {b : Booking} (h : validB cs b = true) : b.beg < b.stop := by
  have o := valid_ok h
  have hlt : b.contact.toNat < cs.length := by omega
  exact (o.2.2.2.2 _ (List.getElem?_eq_getElem hlt)).2.1
theorem bookL_ok {cs : List Contact} {l : List Booking} (h : bookL cs l = 0) : BookOk cs l := by
  have hz := runL_zero (step := bookStep cs l) (fun i x r hr => by
    simp only [bookStep] at hr
    grind) l 0 h
  have hv : ∀ (j : Nat) b, l[j]? = some b → validB cs b = true := fun j b hb => by
    have := hz j b hb
    simp only [bookStep] at this
    cases hvb : validB cs b with
    | true => rfl
    | false => simp [hvb] at this
  refine ⟨fun b hb => ?_, pairwise_of_next ?_ l fun j a b ha hb => ?_⟩
  · obtain ⟨j, hj⟩ := List.mem_iff_getElem?.1 hb
    exact hv j b hj
  · intro a b c h1 h2
    unfold BRel at *
    omega
  · have hb1 := hv _ _ hb
    have hlt := valid_lt hb1
    have := hz (j + 1) b hb
    simp only [bookStep, hb1, Nat.zero_add, Nat.add_sub_cancel, ha] at this
    unfold BRel
    grind

theorem plan_ok {q : List Int} {cs : List Contact} (h : planCheck q cs = 0) : ∀ c ∈ cs, contactCheck c = 0 := by
  intro c hc
  obtain ⟨j, hj⟩ := List.mem_iff_getElem?.1 hc
  simp only [planCheck] at h
  split at h
  · omega
  · split at h
    · have := runL_zero (step := planStep q.length cs) (fun i x r hr => by
        simp only [planStep] at hr
        grind) cs 0 h j c hj
      simp only [planStep] at this
      grind
    · omega

/-- Intervals one behind the other, within bounds. -/
def Row (stop : Int) : List Span → Int → Prop
  | [], lo => lo ≤ stop
  | x :: l, lo => lo ≤ x.frm ∧ x.frm < x.to ∧ Row stop l x.to

theorem row_stop {stop : Int} : ∀ (l : List Span) (lo : Int), Row stop l lo → lo ≤ stop
  | [], _, h => h
  | x :: l, lo, ⟨h1, h2, h3⟩ => by have := row_stop l x.to h3; omega

theorem row_of_pairwise {stop : Int} : ∀ (l : List Span) (lo : Int), lo ≤ stop → (∀ x ∈ l, lo ≤ x.frm ∧ x.frm < x.to ∧ x.to ≤ stop) → l.Pairwise (fun x y => x.to ≤ y.frm) → Row stop l lo
  | [], lo, h, _, _ => h
  | x :: l, lo, _, hb, hp => by
    have hx := hb x (by simp)
    cases hp with
    | cons h1 h2 =>
      exact ⟨hx.1, hx.2.1, row_of_pairwise l x.to hx.2.2 (fun y hy => ⟨h1 y hy, (hb y (by simp [hy])).2.1, (hb y (by simp [hy])).2.2⟩) h2⟩

theorem busy_row {cs : List Contact} {l : List Booking} (h : BookOk cs l) {k : Int} {c : Contact} (hc : cs[k.toNat]? = some c) (hcc : contactCheck c = 0) : Row c.stop (busy l k) c.start := by
  have o := contact_ok hcc
  refine row_of_pairwise _ _ (by omega) (fun x hx => ?_) ?_
  · simp only [busy, List.mem_filterMap] at hx
    obtain ⟨b, hb, he⟩ := hx
    have hv := valid_ok (h.valid b hb)
    split at he
    · rename_i hk
      cases he
      rw [hk] at hv
      have := hv.2.2.2.2 c hc
      exact ⟨this.1, this.2.1, this.2.2⟩
    · cases he
  · unfold busy
    refine List.Pairwise.filterMap _ (fun a b hab x hx y hy => ?_) h.sorted
    split at hx <;> split at hy <;> first | (cases hx; done) | (cases hy; done) | skip
    cases hx
    cases hy
    unfold BRel at hab
    show a.stop ≤ b.beg
    omega

/-! ### fitting -/
def fitL (n : Int) : List Span → Option Int
  | [] => none
  | x :: l => if n ≤ x.to - x.frm then some x.frm else fitL n l
def firstR (ready n : Int) : List Span → Int
  | [] => -1
  | x :: l => if (if x.frm < ready then ready else x.frm) + n ≤ x.to ∧ (if x.frm < ready then ready else x.frm) < x.to then (if x.frm < ready then ready else x.frm) else firstR ready n l

theorem fit_app {n : Int} (a b : List Span) : fitL n (a ++ b) = match fitL n a with | some x => some x | none => fitL n b := by
  induction a with
  | nil => rfl
  | cons x a ih => simp only [List.cons_append, fitL]; split <;> simp_all
theorem first_app {ready n : Int} (a b : List Span) (ha : ∀ x ∈ a, 0 ≤ x.frm) : firstR ready n (a ++ b) = if firstR ready n a = -1 then firstR ready n b else firstR ready n a := by
  induction a with
  | nil => rfl
  | cons x a ih =>
    have hx := ha x (by simp)
    have ih := ih fun y hy => ha y (by simp [hy])
    simp only [List.cons_append, firstR]
    have h0 : 0 ≤ (if x.frm < ready then ready else x.frm) := by split <;> omega
    by_cases hc : (if x.frm < ready then ready else x.frm) + n ≤ x.to ∧ (if x.frm < ready then ready else x.frm) < x.to
    · simp only [if_pos hc]
      have hne : (if x.frm < ready then ready else x.frm) ≠ -1 := by omega
      rw [if_neg hne]
    · simp only [if_neg hc]
      exact ih

/-- Both ways of fitting agree. -/
theorem fit_eq {stop ready n : Int} (hn : 1 ≤ n) : ∀ (l : List Span) (lo : Int), 0 ≤ lo → Row stop l lo →
    (fitL n (gapsL stop l (if lo < ready then ready else lo))).getD (-1) = firstR ready n (gapsR stop l lo)
  | [], lo, h0, h => by
    simp only [gapsL, gapsR]
    grind [fitL, firstR]
  | x :: l, lo, h0, h => by
    obtain ⟨h1, h2, h3⟩ := h
    have ih := fit_eq (ready := ready) hn l x.to (by omega) h3
    simp only [gapsL, gapsR]
    rw [fit_app, first_app _ _ (by intro y hy; split at hy <;> simp at hy; subst hy; exact h0), ← ih]
    have e : (if (if lo < ready then ready else lo) < x.to then x.to else (if lo < ready then ready else lo)) = (if x.to < ready then ready else x.to) := by grind
    rw [e]
    by_cases hg : lo < x.frm
    · by_cases hr : lo < ready
      · by_cases hr2 : ready < x.frm
        · simp only [hg, hr, hr2, if_true, fitL, firstR]
          grind
        · simp only [hg, hr, hr2, if_true, if_false, fitL, firstR]
          grind
      · simp only [hg, hr, if_true, if_false, fitL, firstR]
        grind
    · have : ¬ (if lo < ready then ready else lo) < x.frm := by grind
      simp only [hg, this, if_false, fitL, firstR, if_true]

theorem fit_nonneg {n : Int} {l : List Span} (h : ∀ x ∈ l, 0 ≤ x.frm) {a : Int} (ha : fitL n l = some a) : 0 ≤ a := by
  induction l with
  | nil => cases ha
  | cons x l ih =>
    simp only [fitL] at ha
    split at ha
    · cases ha; exact h x (by simp)
    · exact ih (fun y hy => h y (by simp [hy])) ha
theorem gapsL_mem {stop : Int} : ∀ (l : List Span) (lo at_ : Int), Row stop l lo → lo ≤ at_ → ∀ x ∈ gapsL stop l at_, at_ ≤ x.frm ∧ x.frm < x.to ∧ x.to ≤ stop
  | [], lo, at_, h, ha, x, hx => by
    simp only [gapsL] at hx
    split at hx <;> simp at hx
    subst hx
    exact ⟨Int.le_refl _, by assumption, Int.le_refl _⟩
  | y :: l, lo, at_, h, ha, x, hx => by
    obtain ⟨h1, h2, h3⟩ := h
    simp only [gapsL, List.mem_append] at hx
    have hs : y.to ≤ stop := row_stop l _ h3
    rcases hx with hx | hx
    · split at hx <;> simp at hx
      subst hx
      exact ⟨Int.le_refl _, by assumption, by show y.frm ≤ stop; omega⟩
    · have := gapsL_mem l y.to _ h3 (by split <;> omega) x hx
      refine ⟨?_, this.2⟩
      have h4 := this.1
      split at h4 <;> omega
theorem gapsR_mem {stop : Int} : ∀ (l : List Span) (lo : Int), Row stop l lo → ∀ x ∈ gapsR stop l lo, lo ≤ x.frm ∧ x.frm < x.to ∧ x.to ≤ stop
  | [], lo, h, x, hx => by
    simp only [gapsR] at hx
    split at hx <;> simp at hx
    subst hx
    exact ⟨Int.le_refl _, by assumption, Int.le_refl _⟩
  | y :: l, lo, h, x, hx => by
    obtain ⟨h1, h2, h3⟩ := h
    simp only [gapsR, List.mem_append] at hx
    have hs : y.to ≤ stop := row_stop l _ h3
    rcases hx with hx | hx
    · split at hx <;> simp at hx
      subst hx
      exact ⟨Int.le_refl _, by assumption, by show y.frm ≤ stop; omega⟩
    · have := gapsR_mem l y.to h3 x hx
      omega
theorem first_late {ready n stop : Int} (h : stop < ready) {l : List Span} (hl : ∀ x ∈ l, x.to ≤ stop) : firstR ready n l = -1 := by
  induction l with
  | nil => rfl
  | cons x l ih =>
    have := hl x (by simp)
    simp only [firstR]
    rw [if_neg (by split <;> omega)]
    exact ih fun y hy => hl y (by simp [hy])
end Ab
