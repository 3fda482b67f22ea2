/- Receiver: what a heard segment does, in plain Lean. -/
import Derived.Test.YthgemjameiibpaaDoorReV
set_option linter.unusedVariables false
set_option linter.unusedSimpArgs false
namespace Ab
open Go
theorem zerosB_len (k : Nat) : (zerosB k).length = k := by simp [zerosB]
theorem getD_out {l : List UInt8} {i : Nat} (h : l.length ≤ i) : l.getD i 0 = 0 := by simp [List.getD, List.getElem?_eq_none h]
theorem zerosB_get (k i : Nat) : (zerosB k).getD i 0 = 0 := by
  by_cases h : i < k
  · simp [zerosB, List.getD, List.getElem?_replicate, h]
  · exact getD_out (by simp [zerosB]; omega)
theorem newData_len {r : Rcv} {x : Seg} (h1 : r.data.size ≤ x.tot.toNat) (h2 : x.off.toNat + x.data.size ≤ x.tot.toNat) : (newData r x).length = x.tot.toNat := by
  have l1 : (setB (zerosB x.tot.toNat) 0 (bl r.data)).length = x.tot.toNat := by rw [setB_len _ _ _ (by rw [bl_len, zerosB_len]; omega), zerosB_len]
  unfold newData
  rw [setB_len _ _ _ (by rw [bl_len, l1]; omega), l1]
theorem newData_get {r : Rcv} {x : Seg} (h1 : r.data.size ≤ x.tot.toNat) (h2 : x.off.toNat + x.data.size ≤ x.tot.toNat) (i : Nat) :
    (newData r x).getD i 0 = if x.off.toNat ≤ i ∧ i < x.off.toNat + x.data.size then (bl x.data).getD (i - x.off.toNat) 0 else (bl r.data).getD i 0 := by
  have l1 : (setB (zerosB x.tot.toNat) 0 (bl r.data)).length = x.tot.toNat := by rw [setB_len _ _ _ (by rw [bl_len, zerosB_len]; omega), zerosB_len]
  unfold newData
  rw [setB_get _ _ _ (by rw [bl_len, l1]; omega), setB_get _ _ _ (by rw [bl_len, zerosB_len]; omega), bl_len, bl_len]
  split
  · rfl
  · split
    · rw [Nat.sub_zero]
    · rw [zerosB_get, getD_out (by rw [bl_len]; omega)]
theorem fits {r : Rcv} {x : Seg} (hr : chkR r = 0) (hx : chkG x = 0) (hs : suits r x = true) : r.data.size ≤ x.tot.toNat ∧ x.off.toNat + x.data.size ≤ x.tot.toNat := by
  obtain ⟨g1, g2, g3, g4, g5, g6, g7⟩ := seg_data hx (suits_iff.1 hs).1
  exact ⟨(size_le hr hx hs).1, by omega⟩
theorem mem_sp {x : Seg} {t : Int} : memS t [sp x] ↔ x.off ≤ t ∧ t < x.off + x.data.size := by
  simp only [memS, or_false]
  rfl
theorem next_mem {r : Rcv} {x : Seg} (hs : suits r x = true) (t : Int) : memS t (nextR r x).known ↔ memS t r.known ∨ (x.off ≤ t ∧ t < x.off + x.data.size) := by
  rw [← mem_sp]
  exact (union_ok (suits_iff.1 hs).2.2.2.2).2.2.2.2 t
theorem next_get {r : Rcv} {x : Seg} (hr : chkR r = 0) (hx : chkG x = 0) (hs : suits r x = true) (i : Nat) :
    (bl (nextR r x).data).getD i 0 = if x.off.toNat ≤ i ∧ i < x.off.toNat + x.data.size then (bl x.data).getD (i - x.off.toNat) 0 else (bl r.data).getD i 0 := by
  show (bl (mkB (newData r x))).getD i 0 = _
  rw [bl_mk]
  exact newData_get (fits hr hx hs).1 (fits hr hx hs).2 i
theorem next_size {r : Rcv} {x : Seg} (hr : chkR r = 0) (hx : chkG x = 0) (hs : suits r x = true) : (nextR r x).data.size = x.tot.toNat := by
  show (mkB (newData r x)).size = _
  rw [mk_size]
  exact newData_len (fits hr hx hs).1 (fits hr hx hs).2
theorem next_valid {r : Rcv} {x : Seg} (hr : chkR r = 0) (hx : chkG x = 0) (hs : suits r x = true) : chkR (nextR r x) = 0 := by
  obtain ⟨h1, h2, h3, h4, h5⟩ := suits_iff.1 hs
  obtain ⟨g1, g2, g3, g4, g5, g6, g7⟩ := seg_data hx h1
  obtain ⟨c1, c2, c3, c4⟩ := chkR_zero hr
  obtain ⟨w1, w2⟩ := next_within hr hx hs
  obtain ⟨u1, u2, u3, u4, u5⟩ := union_ok h5
  have a1 : RngR (nextR r x) := ⟨c1.1, .inr ⟨g1, g2⟩⟩
  have a2 : KnR (nextR r x) := by
    refine ⟨u4, ⟨fun h => (w2 h).elim, fun h => ?_⟩, (inside_iff u4).2 w1⟩
    have : x.tot = -1 := h
    omega
  have a3 : ((nextR r x).data.size : Int) = sizR (nextR r x).tot := by
    rw [next_size hr hx hs]
    show ((x.tot.toNat : Nat) : Int) = sizR x.tot
    unfold sizR
    rw [if_neg (by omega)]
    omega
  have a4 : ZeroR (nextR r x) := by
    intro i hi hi0
    rw [next_get hr hx hs] at hi0
    rw [next_mem hs]
    split at hi0
    · right; omega
    · left
      refine c4 i ?_ hi0
      rw [← bl_len]
      rcases Nat.lt_or_ge i (bl r.data).length with h | h
      · exact h
      · exact (hi0 (getD_out h)).elim
  unfold chkR
  rw [if_neg (not_not_intro a1), if_neg (not_not_intro a2), if_neg (not_not_intro a3), if_pos a4]
theorem hear_ok {r : Rcv} {x : Seg} (hr : chkR r = 0) (hx : chkG x = 0) : hear r x = if suits r x = true then (nextR r x, if x.chk = true then [claimR r x] else [], 0) else (r, [], 0) := by
  unfold hear
  rw [if_neg (not_not_intro ⟨hr, hx⟩)]
  by_cases hs : suits r x = true
  · rw [if_neg (by rw [hs]; decide), if_pos hs]
  · rw [if_pos (by simpa using hs), if_neg hs]
theorem hear_valid {r : Rcv} {x : Seg} (hr : chkR r = 0) (hx : chkG x = 0) : chkR (hear r x).1 = 0 := by
  rw [hear_ok hr hx]
  split
  · rename_i hs; exact next_valid hr hx hs
  · exact hr
theorem canon_cover : ∀ {u : List Span} {b a c : Int}, Canon b u → a < c → (∀ t, a ≤ t → t < c → memS t u) → ∃ y ∈ u, y.fro ≤ a ∧ c ≤ y.to
  | [], b, a, c, hu, hac, h => (h a (Int.le_refl _) hac).elim
  | x :: l, b, a, c, hu, hac, h => by
    obtain ⟨u1, u2, u3⟩ := hu
    by_cases hx : x.fro ≤ a ∧ a < x.to
    · refine ⟨x, List.mem_cons_self, hx.1, ?_⟩
      rcases Int.lt_or_le x.to c with h1 | h1
      · rcases h x.to (by omega) h1 with h2 | h2
        · omega
        · have := canon_mem u3 h2; omega
      · exact h1
    · have ha : memS a l := by
        rcases h a (Int.le_refl _) hac with h2 | h2
        · exact (hx h2).elim
        · exact h2
      have hxa := canon_mem u3 ha
      obtain ⟨y, hy, hy2⟩ := canon_cover u3 hac fun t h1 h2 => by
        rcases h t h1 h2 with h3 | h3
        · omega
        · exact h3
      exact ⟨y, List.mem_cons_of_mem _ hy, hy2⟩
theorem mem_span {l : List Span} {y : Span} (hy : y ∈ l) {t : Int} (h1 : y.fro ≤ t) (h2 : t < y.to) : memS t l := by
  rw [memS_any, List.any_eq_true]
  exact ⟨y, hy, by simpa using ⟨h1, h2⟩⟩
theorem keep_get {r : Rcv} {x : Seg} (hr : chkR r = 0) (hx : chkG x = 0) (hs : suits r x = true) {i : Nat} (hm : memS i r.known) : (bl (nextR r x).data).getD i 0 = (bl r.data).getD i 0 := by
  obtain ⟨h1, h2, h3, h4, h5⟩ := suits_iff.1 hs
  obtain ⟨g1, g2, g3, g4, g5, g6, g7⟩ := seg_data hx h1
  rw [next_get hr hx hs]
  split
  · have := h4 (i - x.off.toNat) (by omega) (by rw [show x.off + ((i - x.off.toNat : Nat) : Int) = (i : Int) by omega]; exact hm)
    rw [show x.off.toNat + (i - x.off.toNat) = i by omega] at this
    exact this.symm
  · rfl
def inSpan (y : Span) (k : Span) : Bool := decide (k.fro ≤ y.fro ∧ y.to ≤ k.to)
/-- What is known stays known, and stays as it is. -/
theorem keeps_span {r : Rcv} {x : Seg} (hr : chkR r = 0) (hx : chkG x = 0) {y : Span} (hy : y ∈ r.known) :
    (hear r x).1.known.any (inSpan y) = true ∧ y.to ≤ ((hear r x).1.data.size : Int) ∧ (hear r x).1.data.extract y.fro.toNat y.to.toNat = r.data.extract y.fro.toNat y.to.toNat := by
  have hW := rcv_within hr y hy
  obtain ⟨c1, c2, c3, c4⟩ := chkR_zero hr
  have hyc := canon_pos ((chkL_iff r.known).1 c2.1).2.1 y hy
  rw [hear_ok hr hx]
  split
  · rename_i hs
    have hv := next_valid hr hx hs
    obtain ⟨d1, d2, d3, d4⟩ := chkR_zero hv
    have hc := ((chkL_iff _).1 d2.1).2.1
    have hsz := (size_le hr hx hs).1
    refine ⟨?_, ?_, ?_⟩
    · obtain ⟨k, hk, hk1, hk2⟩ := canon_cover hc hyc fun t h1 h2 => (next_mem hs t).2 (.inl (mem_span hy h1 h2))
      rw [List.any_eq_true]
      exact ⟨k, hk, decide_eq_true ⟨hk1, hk2⟩⟩
    · show y.to ≤ ((nextR r x).data.size : Int)
      rw [next_size hr hx hs]
      omega
    · show (nextR r x).data.extract _ _ = _
      apply bl_inj
      rw [bl_extract, bl_extract, list_get_ext (by simp only [List.length_take, List.length_drop, bl_len, next_size hr hx hs]; omega)]
      intro k hk
      simp only [List.length_take, List.length_drop, bl_len, next_size hr hx hs] at hk
      rw [part_get _ _ _ _ (by rw [bl_len, next_size hr hx hs]; omega) (by omega), part_get _ _ _ _ (by rw [bl_len]; omega) (by omega)]
      exact keep_get hr hx hs (mem_span hy (by omega) (by omega))
  · refine ⟨?_, hW.2, rfl⟩
    rw [List.any_eq_true]
    exact ⟨y, hy, decide_eq_true ⟨Int.le_refl _, Int.le_refl _⟩⟩
theorem keeps_complete {r : Rcv} {x : Seg} (hr : chkR r = 0) (hx : chkG x = 0) (hc : complete r = true) : complete (hear r x).1 = true := by
  have hv := hear_valid hr hx
  unfold complete at hc ⊢
  rw [decide_eq_true_eq] at hc ⊢
  refine ⟨hv, ?_⟩
  rw [hear_ok hr hx] at hv ⊢
  split
  · rename_i hs
    rw [if_pos hs] at hv
    obtain ⟨h1, h2, h3, h4, h5⟩ := suits_iff.1 hs
    obtain ⟨g1, g2, g3, g4, g5, g6, g7⟩ := seg_data hx h1
    obtain ⟨c1, c2, c3, c4⟩ := chkR_zero hr
    obtain ⟨d1, d2, d3, d4⟩ := chkR_zero hv
    have ht : r.tot ≠ -1 := fun h => by
      have := c2.2.1.2 h
      rw [this] at hc
      cases hc.2
    have htt : x.tot = r.tot := by rcases h3 with h | h; exact (ht h).elim; exact h
    show (nextR r x).known = [⟨0, x.tot⟩]
    refine canon_unique ((chkL_iff _).1 d2.1).2.1 (b' := -1) ⟨by show (-1 : Int) < 0; decide, by show (0 : Int) < x.tot; omega, trivial⟩ fun t => ?_
    rw [next_mem hs, hc.2]
    simp only [memS, or_false]
    omega
  · exact hc.2
theorem keeps_tot {r : Rcv} {x : Seg} (hr : chkR r = 0) (hx : chkG x = 0) : (hear r x).1.ses = r.ses ∧ (0 ≤ r.tot → (hear r x).1.tot = r.tot) ∧ (hear r x).2.1.length ≤ 1 ∧ r.data.size ≤ (hear r x).1.data.size ∧ (hear r x).2.2 = 0 := by
  rw [hear_ok hr hx]
  split
  · rename_i hs
    have hsz := (size_le hr hx hs).1
    refine ⟨rfl, fun h => ?_, by dsimp only; split <;> simp, ?_, rfl⟩
    · rcases (suits_iff.1 hs).2.2.1 with h1 | h1
      · omega
      · exact h1
    · show r.data.size ≤ (nextR r x).data.size
      rw [next_size hr hx hs]
      exact hsz
  · exact ⟨rfl, fun _ => rfl, by simp, Nat.le_refl _, rfl⟩
end Ab
