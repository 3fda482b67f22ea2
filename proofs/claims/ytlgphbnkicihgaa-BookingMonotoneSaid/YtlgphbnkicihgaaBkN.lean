/- Booking: the laws First and Monotone. -/
import Derived.Test.YtlgphbnkicihgaaBkM
set_option linter.unusedVariables false
set_option linter.unusedSimpArgs false
namespace Ab
open Go

theorem row_from {stop : Int} : ∀ (l : List Span) (lo : Int), Row stop l lo → ∀ x ∈ l, lo ≤ x.frm ∧ x.to ≤ stop
  | [], lo, _, x, hx => by simp at hx
  | z :: l, lo, ⟨r1, r2, r3⟩, x, hx => by
    rcases List.mem_cons.1 hx with rfl | hx
    · have := row_stop l x.to r3
      omega
    · have := row_from l z.to r3 x hx
      omega
theorem fit_some {stop n a : Int} (hn : 1 ≤ n) : ∀ (l : List Span) (lo at_ : Int), Row stop l lo → lo ≤ at_ → fitL n (gapsL stop l at_) = some a → at_ ≤ a ∧ a + n ≤ stop ∧ ∀ x ∈ l, x.to ≤ a ∨ a + n ≤ x.frm
  | [], lo, at_, _, hle, h => by
    unfold gapsL at h
    split at h
    · unfold fitL at h
      split at h
      · cases h
        refine ⟨Int.le_refl _, ?_, by simp⟩
        simp only at *
        omega
      · simp [fitL] at h
    · simp [fitL] at h
  | x :: l, lo, at_, ⟨r1, r2, r3⟩, hle, h => by
    have hn' : x.to ≤ (if at_ < x.to then x.to else at_) := by split <;> omega
    have hge : at_ ≤ (if at_ < x.to then x.to else at_) := by split <;> omega
    unfold gapsL at h
    rw [fit_app] at h
    cases hf : fitL n (if at_ < x.frm then [⟨at_, x.frm⟩] else []) with
    | some b =>
      rw [hf] at h
      cases h
      split at hf
      · unfold fitL at hf
        split at hf
        · cases hf
          have hs := row_stop l x.to r3
          simp only at *
          refine ⟨Int.le_refl _, by omega, fun y hy => ?_⟩
          rcases List.mem_cons.1 hy with rfl | hy
          · right; omega
          · have := row_from l x.to r3 y hy
            right; omega
        · simp [fitL] at hf
      · simp [fitL] at hf
    | none =>
      rw [hf] at h
      obtain ⟨i1, i2, i3⟩ := fit_some hn l x.to _ r3 hn' h
      refine ⟨by omega, i2, fun y hy => ?_⟩
      rcases List.mem_cons.1 hy with rfl | hy
      · left; omega
      · exact i3 y hy
theorem fit_least {stop n t : Int} (hn : 1 ≤ n) : ∀ (l : List Span) (at_ : Int), at_ ≤ t → t + n ≤ stop → (∀ x ∈ l, x.to ≤ t ∨ t + n ≤ x.frm) → ∃ a, fitL n (gapsL stop l at_) = some a ∧ a ≤ t
  | [], at_, h1, h2, _ => by
    refine ⟨at_, ?_, h1⟩
    unfold gapsL
    rw [if_pos (by omega)]
    unfold fitL
    rw [if_pos (by simp only; omega)]
  | x :: l, at_, h1, h2, h3 => by
    unfold gapsL
    rw [fit_app]
    rcases h3 x (by simp) with hx | hx
    · cases hf : fitL n (if at_ < x.frm then [⟨at_, x.frm⟩] else []) with
      | some b =>
        refine ⟨b, rfl, ?_⟩
        split at hf
        · unfold fitL at hf
          split at hf
          · cases hf; exact h1
          · simp [fitL] at hf
        · simp [fitL] at hf
      | none => exact fit_least hn l _ (by split <;> omega) h2 fun y hy => h3 y (by simp [hy])
    · refine ⟨at_, ?_, h1⟩
      rw [if_pos (by omega)]
      unfold fitL
      rw [if_pos (by simp only; omega)]

theorem ticks_pos {c : Contact} (hr : 1 ≤ c.rate) {n : Int} (h0 : 0 ≤ n) : 1 ≤ ticks c n := by
  unfold ticks
  rw [Int.le_ediv_iff_mul_le (by omega)]
  omega
theorem ticks_mono {c : Contact} (hr : 1 ≤ c.rate) {n m : Int} (h : n ≤ m) : ticks c n ≤ ticks c m := by
  unfold ticks
  exact Int.ediv_le_ediv (by omega) (by omega)
theorem passT_succ {c : Contact} (hr : 1 ≤ c.rate) {n : Int} (h0 : 0 ≤ n) : passT c n ≤ passT c (n + 1) := by
  unfold passT
  have t16 := ticks_pos hr (n := 16) (by omega)
  by_cases h : n % 16 = 15
  · have e1 : (n + 1) / 16 = n / 16 + 1 := by omega
    have e2 : (n + 1) % 16 = 0 := by omega
    rw [e1, e2, h]
    have := ticks_mono hr (n := 15) (m := 16) (by omega)
    simp only [Int.add_mul]
    simp
    omega
  · have e1 : (n + 1) / 16 = n / 16 := by omega
    have e2 : (n + 1) % 16 = n % 16 + 1 := by omega
    rw [e1, e2]
    have := ticks_mono hr (n := n % 16) (m := n % 16 + 1) (by omega)
    have := ticks_pos hr (n := n % 16 + 1) (by omega)
    split <;> split <;> omega
theorem passT_mono {c : Contact} (hr : 1 ≤ c.rate) {n : Int} (h0 : 0 ≤ n) : ∀ (d : Nat), passT c n ≤ passT c (n + d)
  | 0 => by simp
  | d + 1 => by
    have := passT_mono hr h0 d
    have := passT_succ hr (n := n + d) (by omega)
    rw [show n + ((d + 1 : Nat) : Int) = n + d + 1 by omega]
    omega
theorem passT_pos {c : Contact} (hr : 1 ≤ c.rate) {n : Int} (h0 : 1 ≤ n) : 1 ≤ passT c n := by
  have h1 : passT c 1 = ticks c 1 := by unfold passT; simp
  have := passT_mono hr (n := 1) (by omega) (n - 1).toNat
  rw [show (1 : Int) + ((n - 1).toNat : Int) = n by omega, h1] at this
  have := ticks_pos hr (n := 1) (by omega)
  omega
theorem durT_mono {c : Contact} (hr : 1 ≤ c.rate) {n m : Int} (h0 : 0 ≤ n) (h : n ≤ m) : durT c n ≤ durT c m := by
  unfold durT
  have := passT_mono hr h0 (m - n).toNat
  rw [show n + ((m - n).toNat : Int) = m by omega] at this
  omega
theorem durT_pos {c : Contact} (hc : contactCheck c = 0) {n : Int} (h0 : 1 ≤ n) : 1 ≤ durT c n := by
  have o := contact_ok hc
  unfold durT
  have h1 := passT_pos (c := c) (by omega) h0
  have h2 := ticks_pos (c := c) (by omega) (n := 16) (by omega)
  have : 0 ≤ c.loss * (2 * c.rng + 1 + ticks c 16) := Int.mul_nonneg (by omega) (by omega)
  omega

/-! ### Fit, told by what it means -/
/-- A time from which on n ticks of the contact are free. -/
def FitsB (c : Contact) (l : List Booking) (k n t : Int) : Prop := c.start ≤ t ∧ t + n ≤ c.stop ∧ ∀ x ∈ busy l k, x.to ≤ t ∨ t + n ≤ x.frm
structure FitOk (q : List Int) (cs : List Contact) (l : List Booking) (k ready size : Int) (c : Contact) : Prop where
  ck : ckCheck q cs l k = 0
  at_ : cs[k.toNat]? = some c
  size : 1 ≤ size ∧ size ≤ 65536
theorem fit_code {q : List Int} {cs : List Contact} {l : List Booking} {k ready size : Int} (h : (fitRes q cs l k ready size).2 = 0 ∨ (fitRes q cs l k ready size).2 = 16) : ∃ c, FitOk q cs l k ready size c ∧ contactCheck c = 0 ∧ BookOk cs l ∧ 0 ≤ k ∧ k < cs.length ∧ l.length ≤ 512 := by
  by_cases h0 : ckCheck q cs l k = 0
  · obtain ⟨c, hc, hk0, hk1, hcc, hbo, hlen⟩ := ck_ok h0
    refine ⟨c, ⟨h0, hc, ?_⟩, hcc, hbo, hk0, hk1, hlen⟩
    simp only [fitRes, h0, hc] at h
    grind
  · simp only [fitRes] at h
    have : ckCheck q cs l k = 1 ∨ ckCheck q cs l k = 2 := by
      unfold ckCheck at *
      grind
    grind
theorem fit_spec {q : List Int} {cs : List Contact} {l : List Booking} {k ready size : Int} {c : Contact} (h : FitOk q cs l k ready size c) (hcc : contactCheck c = 0) (hbo : BookOk cs l) :
    (∀ a, fitRes q cs l k ready size = (a, 0) → ready ≤ a ∧ FitsB c l k (durT c size) a) ∧
    (∀ t, ready ≤ t → FitsB c l k (durT c size) t → ∃ a, fitRes q cs l k ready size = (a, 0) ∧ a ≤ t) ∧
    ((fitRes q cs l k ready size).2 = 0 ∨ fitRes q cs l k ready size = (0, 16)) := by
  obtain ⟨h0, hc, hs⟩ := h
  have hrow := busy_row hbo hc hcc
  have hn := durT_pos hcc hs.1
  have hle : c.start ≤ (if c.start < ready then ready else c.start) := by split <;> omega
  have hre : ready ≤ (if c.start < ready then ready else c.start) := by split <;> omega
  have e : fitRes q cs l k ready size = match fitL (durT c size) (gapsL c.stop (busy l k) (if c.start < ready then ready else c.start)) with
      | some a => (a, 0)
      | none => (0, 16) := by
    unfold fitRes
    rw [if_neg (by simp [h0]), hc]
    dsimp only
    rw [if_pos hs]
    cases fitL (durT c size) (gapsL c.stop (busy l k) (if c.start < ready then ready else c.start)) <;> rfl
  rw [e]
  refine ⟨fun a ha => ?_, fun t ht hf => ?_, ?_⟩
  · cases hf : fitL (durT c size) (gapsL c.stop (busy l k) (if c.start < ready then ready else c.start)) with
    | none => rw [hf] at ha; cases ha
    | some b =>
      rw [hf] at ha
      cases ha
      obtain ⟨i1, i2, i3⟩ := fit_some hn _ _ _ hrow hle hf
      exact ⟨by omega, by omega, i2, i3⟩
  · obtain ⟨a, ha, hat⟩ := fit_least hn (busy l k) (if c.start < ready then ready else c.start) (by have := hf.1; split <;> omega) hf.2.1 hf.2.2
    exact ⟨a, by rw [ha], hat⟩
  · split
    · left; rfl
    · right; rfl
theorem fits_add {q : List Int} {cs : List Contact} {l : List Booking} {k n t : Int} {c : Contact} (hck : ckCheck q cs l k = 0) (hc : cs[k.toNat]? = some c) (hn : 1 ≤ n) (hl : l.length < 512) : addC q cs l ⟨k, t, t + n, 9⟩ = 0 ↔ FitsB c l k n t := by
  obtain ⟨c', hc', hk0, hk1, hcc, hbo, hlen⟩ := ck_ok hck
  rw [hc] at hc'
  cases hc'
  have hb : bookCheck q cs l = 0 := by unfold ckCheck at hck; grind
  have hv : validB cs ⟨k, t, t + n, 9⟩ = decide (c.start ≤ t ∧ t < t + n ∧ t + n ≤ c.stop) := by
    unfold validB
    rw [if_neg (by simp only; omega)]
    simp only [hc]
  have ho : ovl l ⟨k, t, t + n, 9⟩ = false ↔ ∀ x ∈ busy l k, x.to ≤ t ∨ t + n ≤ x.frm := by
    have := busy_any l ⟨k, t, t + n, 9⟩
    rw [← this, List.any_eq_false]
    simp only [decide_eq_true_eq]
    constructor
    · intro h x hx
      have := h x hx
      omega
    · intro h x hx
      have := h x hx
      omega
  unfold addC FitsB
  rw [← ho, hv]
  simp only [hb, ne_eq, not_true_eq_false, if_false]
  by_cases h1 : c.start ≤ t ∧ t < t + n ∧ t + n ≤ c.stop
  · simp only [h1, decide_true, Bool.true_eq_false, if_false, (show ¬ l.length = 512 by omega)]
    simp only [true_and, and_self]
    cases ovl l ⟨k, t, t + n, 9⟩ <;> simp
  · simp only [h1, decide_false, if_true]
    constructor
    · intro h; omega
    · intro h; exact absurd ⟨h.1, by omega, h.2.1⟩ h1

theorem law6 (q : List Int) (cs : List Contact) (l : List Booking) (k ready size : Int) (hr : -9223372036854775808 ≤ ready ∧ ready ≤ 9223372036854775807) :
    Runs C 6 [.sl 1 (q.map encI), .sl 7 (cs.map Contact.enc), .sl 4 (l.map Booking.enc), tI k, tI ready, tI size] [.bool true] := by
  refine Runs.of (fun n => e6 n _ _ _ _ _ _) ?_
  by_cases hg : 6 < q.length ∨ 10 < cs.length ∨ 30 < l.length
  · refine ((s11 q cs l).and s12).mono fun n ⟨h1, h2⟩ => ?_
    simp only [h1, h2, vI_mk, vB_mk, vS_mk, vL_mk, sVer_mk, sOff_mk, sLen_mk, oVer_mk, oEs_mk, cI_mk, cB_mk, cS_mk, cL_mk, cVer_mk, cOff_mk, cLen_mk, gI_zero, gI_succ, gB_zero, gB_succ, gS_zero, gS_succ, gL_zero, gL_succ, okI_zero, okI_succ, okB_zero, okB_succ, okS_zero, okS_succ, okL_zero, okL_succ, isIntT_int, isBoolT_bool, isStrT_str, isSlT_sl, intOf_int, boolOf_bool, strOf_str, slOf_sl, treeOf_t, srVer_sref, srOff_sref, srLen_sref, ver_row, esOf_row, cellOf_box, List.getD_cons_zero, List.getD_cons_succ, decide_true, decide_false, cnd_true, cnd_false, true_and, and_true, false_and, and_false, Option.bind_some, Option.bind_none, List.length_cons, List.length_nil, List.length_map, List.getElem?_map, Option.map_some, Option.map_none, Int.toNat_natCast, reduceCtorEq, eq_self, if_true, if_false, Nat.zero_add, Nat.reduceAdd, Nat.reduceEqDiff, Int.natCast_nonneg, List.drop_zero, or_true, true_or, or_false, false_or, Bool.not_true, Bool.not_false, Bool.false_eq_true, decide_eq_true_eq, ge_iff_le, gt_iff_lt, hg]
  by_cases hcode : (fitRes q cs l k ready size).2 = 0 ∨ (fitRes q cs l k ready size).2 = 16
  · obtain ⟨c, hfo, hcc, hbo, hk0, hk1, hlen⟩ := fit_code hcode
    obtain ⟨f1, f2, f3⟩ := fit_spec hfo hcc hbo
    obtain ⟨hck, hc, hs⟩ := hfo
    have o := contact_ok hcc
    have hn := durT_pos hcc hs.1
    have hnb := durT_bound hcc (n := size) (by omega) (by omega)
    have hdc : durCheck c size = 0 := by unfold durCheck; simp [hcc, hs]
    have q25 := s25 c size
    rw [hdc, if_pos rfl] at q25
    generalize hnn : durT c size = nn at *
    -- the loop over earlier times
    have hloop : ∀ (last t0 : Int) (P : Prop), 0 ≤ last → last ≤ 1099511627776 → c.start ≤ t0 → (∀ t, t0 ≤ t → t < last → ¬ FitsB c l k nn t) →
        Ev fun n => loopIter (fun (p14 : List AV × Heap) (again15 : _ → Option (List Tree)) => cnd (vI p14 0 < last)
          (Option.bind (apure C n (26:Nat) [Tree.sl (1:Nat) (q.map encI), Tree.sl (7:Nat) (cs.map Contact.enc), Tree.sl (4:Nat) (l.map Booking.enc), tI k, tI (vI p14 0), tI (w64 ((vI p14 0) + nn)), tI (9:Int)]) fun y16 => cnd (List.length y16 = (2:Nat)) (cnd (okL 4 y16 0) (cnd (okI y16 1) (cnd (((gI y16 1) == (0:Int)) = true) (some [Tree.bool false]) (again15 ([AV.t (tI (w64 ((vI p14 0) + (1:Int))))], [AObj.box []]))) none) none) none)
          (Option.bind (apure C n (12:Nat) []) fun y17 => cnd (List.length y17 = (1:Nat)) (cnd (okB y17 0) (some [Tree.bool (gB y17 0)]) none) none)) n ([AV.t (tI t0)], [AObj.box []]) = some [Tree.bool true] := by
      intro last t0 P hl0 hl1 ht0 hno
      refine while_overQ (fun (r : Bool) => [Tree.bool r]) (fun (t : Int) => (([.t (tI t)], [.box []]) : List AV × Heap)) (fun t => if t < last then .next (t + 1) else .done true) (fun t => t0 ≤ t) (fun t => (last - t).toNat) (fun _ => true) t0 rfl (Int.le_refl _) rfl
        (fun t hI => ?_) (fun t t' hI ht => ?_) (fun t hI => ?_)
      · by_cases hlt : t < last
        · have hw : w64 (t + nn) = t + nn := w64_id (by omega) (by omega)
          have hw1 : w64 (t + 1) = t + 1 := w64_id (by omega) (by omega)
          have hA : ¬ addC q cs l ⟨k, t, t + nn, 9⟩ = 0 := by
            rw [fits_add hck hc hn (by omega)]
            exact hno t hI hlt
          refine (s26 q cs l ⟨k, t, t + nn, 9⟩).mono fun n h again => ?_
          simp only [vI_mk, vB_mk, vS_mk, vL_mk, sVer_mk, sOff_mk, sLen_mk, oVer_mk, oEs_mk, cI_mk, cB_mk, cS_mk, cL_mk, cVer_mk, cOff_mk, cLen_mk, gI_zero, gI_succ, gB_zero, gB_succ, gS_zero, gS_succ, gL_zero, gL_succ, okI_zero, okI_succ, okB_zero, okB_succ, okS_zero, okS_succ, okL_zero, okL_succ, isIntT_int, isBoolT_bool, isStrT_str, isSlT_sl, intOf_int, boolOf_bool, strOf_str, slOf_sl, treeOf_t, srVer_sref, srOff_sref, srLen_sref, ver_row, esOf_row, cellOf_box, List.getD_cons_zero, List.getD_cons_succ, decide_true, decide_false, cnd_true, cnd_false, true_and, and_true, false_and, and_false, Option.bind_some, Option.bind_none, List.length_cons, List.length_nil, List.length_map, List.getElem?_map, Option.map_some, Option.map_none, Int.toNat_natCast, reduceCtorEq, eq_self, if_true, if_false, Nat.zero_add, Nat.reduceAdd, Nat.reduceEqDiff, Int.natCast_nonneg, List.drop_zero, or_true, true_or, or_false, false_or, Bool.not_true, Bool.not_false, Bool.false_eq_true, decide_eq_true_eq, ge_iff_le, gt_iff_lt, hlt, hw, hw1, h, Rd.go_next]
          rw [cnd_neg (by simpa using hA)]
        · refine s12.mono fun n h again => ?_
          simp only [vI_mk, vB_mk, vS_mk, vL_mk, sVer_mk, sOff_mk, sLen_mk, oVer_mk, oEs_mk, cI_mk, cB_mk, cS_mk, cL_mk, cVer_mk, cOff_mk, cLen_mk, gI_zero, gI_succ, gB_zero, gB_succ, gS_zero, gS_succ, gL_zero, gL_succ, okI_zero, okI_succ, okB_zero, okB_succ, okS_zero, okS_succ, okL_zero, okL_succ, isIntT_int, isBoolT_bool, isStrT_str, isSlT_sl, intOf_int, boolOf_bool, strOf_str, slOf_sl, treeOf_t, srVer_sref, srOff_sref, srLen_sref, ver_row, esOf_row, cellOf_box, List.getD_cons_zero, List.getD_cons_succ, decide_true, decide_false, cnd_true, cnd_false, true_and, and_true, false_and, and_false, Option.bind_some, Option.bind_none, List.length_cons, List.length_nil, List.length_map, List.getElem?_map, Option.map_some, Option.map_none, Int.toNat_natCast, reduceCtorEq, eq_self, if_true, if_false, Nat.zero_add, Nat.reduceAdd, Nat.reduceEqDiff, Int.natCast_nonneg, List.drop_zero, or_true, true_or, or_false, false_or, Bool.not_true, Bool.not_false, Bool.false_eq_true, decide_eq_true_eq, ge_iff_le, gt_iff_lt, hlt, h, Rd.go_done]
      · split at ht
        · cases ht
          exact ⟨by omega, by omega⟩
        · cases ht
      · split <;> rfl
    simp only [decide_eq_true_eq]
    rcases f3 with h3 | h3
    · obtain ⟨a, ha⟩ : ∃ a, fitRes q cs l k ready size = (a, 0) := ⟨(fitRes q cs l k ready size).1, by rw [← h3]⟩
      obtain ⟨g1, g2⟩ := f1 a ha
      have hA : addC q cs l ⟨k, a, a + nn, 9⟩ = 0 := (fits_add hck hc hn (by omega)).2 g2
      have ga := g2.1
      have gb := g2.2.1
      have hw : w64 (a + nn) = a + nn := w64_id (by omega) (by omega)
      have q13 := s13 q cs l k ready size
      rw [ha] at q13
      have q26 := s26 q cs l ⟨k, a, a + nn, 9⟩
      rw [hA] at q26
      have hL := hloop a (if w64 (a - 200) > (if c.start > ready then c.start else ready) then w64 (a - 200) else (if c.start > ready then c.start else ready)) True (by omega) (by omega) (by grind) fun t ht1 ht2 hf => by
        obtain ⟨a', ha', hle⟩ := f2 t (by grind) hf
        rw [ha] at ha'
        cases ha'
        omega
      refine ((s11 q cs l).and (q13.and (q25.and (q26.and hL)))).mono fun n h => ?_
      obtain ⟨h1, h2, h3, h4, h5⟩ := h
      simp only [Contact.enc, List.cons_append, List.nil_append] at h3
      simp only [gt_iff_lt] at h5
      simp only [h1, h2, h3, h4, vI_mk, vB_mk, vS_mk, vL_mk, sVer_mk, sOff_mk, sLen_mk, oVer_mk, oEs_mk, cI_mk, cB_mk, cS_mk, cL_mk, cVer_mk, cOff_mk, cLen_mk, gI_zero, gI_succ, gB_zero, gB_succ, gS_zero, gS_succ, gL_zero, gL_succ, okI_zero, okI_succ, okB_zero, okB_succ, okS_zero, okS_succ, okL_zero, okL_succ, isIntT_int, isBoolT_bool, isStrT_str, isSlT_sl, intOf_int, boolOf_bool, strOf_str, slOf_sl, treeOf_t, srVer_sref, srOff_sref, srLen_sref, ver_row, esOf_row, cellOf_box, List.getD_cons_zero, List.getD_cons_succ, decide_true, decide_false, cnd_true, cnd_false, true_and, and_true, false_and, and_false, Option.bind_some, Option.bind_none, List.length_cons, List.length_nil, List.length_map, List.getElem?_map, Option.map_some, Option.map_none, Int.toNat_natCast, reduceCtorEq, eq_self, if_true, if_false, Nat.zero_add, Nat.reduceAdd, Nat.reduceEqDiff, Int.natCast_nonneg, List.drop_zero, or_true, true_or, or_false, false_or, Bool.not_true, Bool.not_false, Bool.false_eq_true, decide_eq_true_eq, ge_iff_le, gt_iff_lt, hg, hc, Contact.enc, hk0, (show ¬ k < 0 by omega), (show ¬ (cs.length : Int) ≤ k by omega), bne_self_eq_false, hw, (show ¬ a < ready by omega), show ((0 : Int) == 1) = false from rfl, show ((0 : Int) == 2) = false from rfl, show ((0 : Int) == 0) = true from rfl]
      exact h5
    · have q13 := s13 q cs l k ready size
      rw [h3] at q13
      have hL := hloop c.stop (if w64 (c.stop - 200) > (if c.start > ready then c.start else ready) then w64 (c.stop - 200) else (if c.start > ready then c.start else ready)) True (by omega) (by omega) (by grind) fun t ht1 ht2 hf => by
        obtain ⟨a', ha', hle⟩ := f2 t (by grind) hf
        rw [h3] at ha'
        cases ha'
      refine ((s11 q cs l).and (q13.and (q25.and hL))).mono fun n h => ?_
      obtain ⟨h1, h2, h3, h5⟩ := h
      simp only [Contact.enc, List.cons_append, List.nil_append] at h3
      simp only [gt_iff_lt] at h5
      simp only [h1, h2, h3, vI_mk, vB_mk, vS_mk, vL_mk, sVer_mk, sOff_mk, sLen_mk, oVer_mk, oEs_mk, cI_mk, cB_mk, cS_mk, cL_mk, cVer_mk, cOff_mk, cLen_mk, gI_zero, gI_succ, gB_zero, gB_succ, gS_zero, gS_succ, gL_zero, gL_succ, okI_zero, okI_succ, okB_zero, okB_succ, okS_zero, okS_succ, okL_zero, okL_succ, isIntT_int, isBoolT_bool, isStrT_str, isSlT_sl, intOf_int, boolOf_bool, strOf_str, slOf_sl, treeOf_t, srVer_sref, srOff_sref, srLen_sref, ver_row, esOf_row, cellOf_box, List.getD_cons_zero, List.getD_cons_succ, decide_true, decide_false, cnd_true, cnd_false, true_and, and_true, false_and, and_false, Option.bind_some, Option.bind_none, List.length_cons, List.length_nil, List.length_map, List.getElem?_map, Option.map_some, Option.map_none, Int.toNat_natCast, reduceCtorEq, eq_self, if_true, if_false, Nat.zero_add, Nat.reduceAdd, Nat.reduceEqDiff, Int.natCast_nonneg, List.drop_zero, or_true, true_or, or_false, false_or, Bool.not_true, Bool.not_false, Bool.false_eq_true, decide_eq_true_eq, ge_iff_le, gt_iff_lt, hg, hc, Contact.enc, hk0, (show ¬ k < 0 by omega), (show ¬ (cs.length : Int) ≤ k by omega), bne_self_eq_false, show ((16 : Int) == 1) = false from rfl, show ((16 : Int) == 2) = false from rfl, show ((16 : Int) == 0) = false from rfl]
      exact h5
  · have hcode2 : ((fitRes q cs l k ready size).2 = 1 ∨ (fitRes q cs l k ready size).2 = 2) ∧ (fitRes q cs l k ready size).1 = 0 := by
      have hcc : ckCheck q cs l k = 0 ∨ ckCheck q cs l k = 1 ∨ ckCheck q cs l k = 2 := by unfold ckCheck; grind
      unfold fitRes at *
      grind
    refine ((s11 q cs l).and ((s13 q cs l k ready size).and s12)).mono fun n h => ?_
    obtain ⟨h1, h2, h3⟩ := h
    simp only [h1, h2, h3, vI_mk, vB_mk, vS_mk, vL_mk, sVer_mk, sOff_mk, sLen_mk, oVer_mk, oEs_mk, cI_mk, cB_mk, cS_mk, cL_mk, cVer_mk, cOff_mk, cLen_mk, gI_zero, gI_succ, gB_zero, gB_succ, gS_zero, gS_succ, gL_zero, gL_succ, okI_zero, okI_succ, okB_zero, okB_succ, okS_zero, okS_succ, okL_zero, okL_succ, isIntT_int, isBoolT_bool, isStrT_str, isSlT_sl, intOf_int, boolOf_bool, strOf_str, slOf_sl, treeOf_t, srVer_sref, srOff_sref, srLen_sref, ver_row, esOf_row, cellOf_box, List.getD_cons_zero, List.getD_cons_succ, decide_true, decide_false, cnd_true, cnd_false, true_and, and_true, false_and, and_false, Option.bind_some, Option.bind_none, List.length_cons, List.length_nil, List.length_map, List.getElem?_map, Option.map_some, Option.map_none, Int.toNat_natCast, reduceCtorEq, eq_self, if_true, if_false, Nat.zero_add, Nat.reduceAdd, Nat.reduceEqDiff, Int.natCast_nonneg, List.drop_zero, or_true, true_or, or_false, false_or, Bool.not_true, Bool.not_false, Bool.false_eq_true, decide_eq_true_eq, ge_iff_le, gt_iff_lt, hg, hcode2.2]
    rcases hcode2.1 with e | e <;> simp [e, cnd_eq]
end Ab
