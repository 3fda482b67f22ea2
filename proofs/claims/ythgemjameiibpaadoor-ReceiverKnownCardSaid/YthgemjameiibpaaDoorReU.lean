/- Parts of the proof: see the last text. -/
import Derived.Test.YthgemjameiibpaaDoorReS
set_option linter.unusedVariables false
set_option linter.unusedSimpArgs false
namespace Ab
open Go

theorem agree_run (r : Rcv) (x : Seg) : runL (fun i (_ : Unit) (b : UInt8) => if (fun (i : Nat) (b : UInt8) => decide (memS (x.off + i) r.known → (bl r.data).getD (x.off.toNat + i) 0 = b)) i b = true then .next () else .done false) (fun _ => decide (unionE r.known [sp x] = 0)) 0 (bl x.data) () = decide (agree r x ∧ unionE r.known [sp x] = 0) := by
  by_cases h : agree r x
  · simp only [h, true_and]
    refine runL_idxT _ _ _ _ _ fun k b hb => ?_
    simp only [Nat.zero_add, decide_eq_true_eq]
    intro hm
    have := h k (by rw [← bl_len]; exact lt_of_some hb) hm
    rw [this, getD_at hb]
  · simp only [h, false_and, decide_false]
    unfold agree at h
    simp only [Classical.not_forall] at h
    obtain ⟨k, k1, k2, k3⟩ := h
    obtain ⟨b, hb⟩ : ∃ b, (bl x.data)[k]? = some b := ⟨(bl x.data)[k]'(by rw [bl_len]; exact k1), List.getElem?_eq_getElem _⟩
    refine runL_idxF _ _ _ _ _ k b hb ?_
    rw [getD_at hb] at k3
    simp only [Nat.zero_add, decide_eq_false_iff_not]
    exact fun h => k3 (h k2)
theorem loop42_2 (r : Rcv) (x : Seg) (hr : chkR r = 0) (hx : chkG x = 0) (hk : x.kind = 1) : Ev fun n => loopIter (fun p again => L42_2 n x.data (r.known.map Span.enc) x.off r.data p again) n ([.t (tI 0)], []) = some [.bool (decide (agree r x ∧ unionE r.known [sp x] = 0))] := by
  obtain ⟨c1, c2, c3, c4⟩ := chkR_zero hr
  have hW := rcv_within hr
  obtain ⟨g1, g2, g3, g4, g5, g6, g7⟩ := seg_data hx hk
  refine loop_overQ (fun (b : Bool) => [Tree.bool b]) (bl x.data) (fun i (_ : Unit) => (([.t (tI i)], []) : List AV × Heap)) (fun i (_ : Unit) (b : UInt8) => if (fun (i : Nat) (b : UInt8) => decide (memS (x.off + i) r.known → (bl r.data).getD (x.off.toNat + i) 0 = b)) i b = true then .next () else .done false) (fun _ => decide (unionE r.known [sp x] = 0)) (fun _ _ => True) () rfl trivial
    (agree_run r x) (fun i s b hb hI => ?_) (fun _ _ _ _ _ _ _ => trivial) (fun s hI => ?_)
  · have hi := lt_of_some hb
    rw [bl_len] at hi
    refine (s50 r.known (x.off + i)).mono fun n h again => ?_
    simp only [L42_2, vv, reduceCtorEq, Nat.reduceAdd, Nat.reduceEqDiff, w64_id (show -9223372036854775808 ≤ x.off + (i : Int) by omega) (by omega), h, c2.1, (show (i : Int) < x.data.size by omega), w64_succ (show i < 4611686018427387904 by omega), byteAt_bl, getD_at hb]
    by_cases hm : memS (x.off + i) r.known
    · have := within_mem hW hm
      simp only [hm, vv, reduceCtorEq, Nat.reduceAdd, Nat.reduceEqDiff]
      rw [cnd_pos (by omega), show (x.off + (i : Int)).toNat = x.off.toNat + i by omega]
      by_cases he : (bl r.data).getD (x.off.toNat + i) 0 = b
      · simp only [he]; simp [cnd_eq, Rd.go_next]
      · have he2 : ¬ (((bl r.data).getD (x.off.toNat + i) 0).toNat = b.toNat) := fun h => he (UInt8.toNat_inj.1 h)
        simp only [he, false_iff]
        simp [cnd_eq, Rd.go_done, he2]
        intro h
        have h' := Int.ofNat_inj.1 h
        exact absurd (by simpa [List.getD_eq_getElem?_getD] using h') he2
    · simp [hm, cnd_eq, Rd.go_next, vv]
  · refine (s43 r.known [sp x]).mono fun n h again => ?_
    rw [unionP_eq] at h
    simp only [List.map_cons, List.map_nil, sp, Span.enc] at h
    simp only [L42_2, vv, reduceCtorEq, Nat.reduceAdd, Nat.reduceEqDiff, bl_len, Int.lt_irrefl, w64_id (show -9223372036854775808 ≤ x.off + (x.data.size : Int) by omega) (by omega), h]
    simp only [sp]
    congr 1
theorem loop42_3 (r : Rcv) (x : Seg) (hr : chkR r = 0) (hx : chkG x = 0) (hk : x.kind = 1) : Ev fun n => loopIter (fun p again => L42_3 n x.data (r.known.map Span.enc) x.off r.data p again) n ([.t (tI 0)], []) = some [.bool (decide (agree r x ∧ unionE r.known [sp x] = 0))] := by
  obtain ⟨c1, c2, c3, c4⟩ := chkR_zero hr
  have hW := rcv_within hr
  obtain ⟨g1, g2, g3, g4, g5, g6, g7⟩ := seg_data hx hk
  refine loop_overQ (fun (b : Bool) => [Tree.bool b]) (bl x.data) (fun i (_ : Unit) => (([.t (tI i)], []) : List AV × Heap)) (fun i (_ : Unit) (b : UInt8) => if (fun (i : Nat) (b : UInt8) => decide (memS (x.off + i) r.known → (bl r.data).getD (x.off.toNat + i) 0 = b)) i b = true then .next () else .done false) (fun _ => decide (unionE r.known [sp x] = 0)) (fun _ _ => True) () rfl trivial
    (agree_run r x) (fun i s b hb hI => ?_) (fun _ _ _ _ _ _ _ => trivial) (fun s hI => ?_)
  · have hi := lt_of_some hb
    rw [bl_len] at hi
    refine (s50 r.known (x.off + i)).mono fun n h again => ?_
    simp only [L42_3, vv, reduceCtorEq, Nat.reduceAdd, Nat.reduceEqDiff, w64_id (show -9223372036854775808 ≤ x.off + (i : Int) by omega) (by omega), h, c2.1, (show (i : Int) < x.data.size by omega), w64_succ (show i < 4611686018427387904 by omega), byteAt_bl, getD_at hb]
    by_cases hm : memS (x.off + i) r.known
    · have := within_mem hW hm
      simp only [hm, vv, reduceCtorEq, Nat.reduceAdd, Nat.reduceEqDiff]
      rw [cnd_pos (by omega), show (x.off + (i : Int)).toNat = x.off.toNat + i by omega]
      by_cases he : (bl r.data).getD (x.off.toNat + i) 0 = b
      · simp only [he]; simp [cnd_eq, Rd.go_next]
      · have he2 : ¬ (((bl r.data).getD (x.off.toNat + i) 0).toNat = b.toNat) := fun h => he (UInt8.toNat_inj.1 h)
        simp only [he, false_iff]
        simp [cnd_eq, Rd.go_done, he2]
        intro h
        have h' := Int.ofNat_inj.1 h
        exact absurd (by simpa [List.getD_eq_getElem?_getD] using h') he2
    · simp [hm, cnd_eq, Rd.go_next, vv]
  · refine (s43 r.known [sp x]).mono fun n h again => ?_
    rw [unionP_eq] at h
    simp only [List.map_cons, List.map_nil, sp, Span.enc] at h
    simp only [L42_3, vv, reduceCtorEq, Nat.reduceAdd, Nat.reduceEqDiff, bl_len, Int.lt_irrefl, w64_id (show -9223372036854775808 ≤ x.off + (x.data.size : Int) by omega) (by omega), h]
    simp only [sp]
    congr 1
theorem s42 (r : Rcv) (x : Seg) (hr : chkR r = 0) (hx : chkG x = 0) : Runs C 42 (r.enc ++ x.enc) [.bool (suits r x)] := by
  refine Runs.of (fun n => e42 n _ _ _ _ _ _ _ _ _ _ _ _) ?_
  obtain ⟨c1, c2, c3, c4⟩ := chkR_zero hr
  unfold suits
  by_cases h1 : x.kind = 1
  · by_cases h2 : x.ses = r.ses
    · simp only [h1, h2, bne_self_eq_false, vv, reduceCtorEq, Nat.reduceAdd, Nat.reduceEqDiff]
      by_cases h3 : 0 ≤ r.tot
      · have h3' : r.tot ≠ -1 := by omega
        by_cases h4 : x.tot = r.tot
        · simp only [h3, h3', h4, bne_self_eq_false, vv, reduceCtorEq, Nat.reduceAdd, Nat.reduceEqDiff, or_true]
          exact loop42_2 r x hr hx h1
        · have h5 : (x.tot != r.tot) = true := by simpa using h4
          simp only [h3, h3', h4, h5, vv, reduceCtorEq, Nat.reduceAdd, Nat.reduceEqDiff, or_false]
          exact Ev.of fun n => by first | rfl | trivial
      · have h3' : r.tot = -1 := by rcases c1.2 with h | h <;> omega
        simp only [h3, h3', vv, reduceCtorEq, Nat.reduceAdd, Nat.reduceEqDiff, true_or]
        have h6 : ¬ (0 : Int) ≤ -1 := by decide
        simp only [h6, vv, reduceCtorEq, Nat.reduceAdd, Nat.reduceEqDiff]
        exact loop42_3 r x hr hx h1
    · have h5 : (x.ses != r.ses) = true := by simpa using h2
      simp only [h1, h2, h5, bne_self_eq_false, vv, reduceCtorEq, Nat.reduceAdd, Nat.reduceEqDiff]
      exact Ev.of fun n => by first | rfl | trivial
  · have h5 : (x.kind != 1) = true := by simpa using h1
    simp only [h1, h5, vv, reduceCtorEq, Nat.reduceAdd, Nat.reduceEqDiff]
    exact Ev.of fun n => by first | rfl | trivial
end Ab

set_option linter.unusedVariables false
set_option linter.unusedSimpArgs false
namespace Ab
open Go

theorem s41 (es : List (List Tree)) (hl : es.length ≤ 1073741824) : Runs C 41 [.sl 2 es] [.sl 2 es] := by
  refine Runs.of (fun n => e41 n _) (Ev.of fun n => ?_)
  by_cases h : es.length = 0
  · have : es = [] := List.eq_nil_of_length_eq_zero h
    subst this
    simp [cnd_eq, both_self]
  · rw [cnd_pos h, cnd_pos hl, List.take_of_length_le (Nat.le_refl _)]
def zerosB (k : Nat) : List UInt8 := List.replicate k 0
def newData (r : Rcv) (x : Seg) : List UInt8 := setB (setB (zerosB x.tot.toNat) 0 (bl r.data)) x.off.toNat (bl x.data)
def claimR (r : Rcv) (x : Seg) : Seg := ⟨2, r.ses, x.ser, 0, x.tot, false, ByteArray.mk #[], unionL r.known [sp x]⟩
def nextR (r : Rcv) (x : Seg) : Rcv := ⟨r.ses, x.tot, unionL r.known [sp x], mkB (newData r x)⟩
def zeroR : Rcv := ⟨0, 0, [], ByteArray.mk #[]⟩
def hear (r : Rcv) (x : Seg) : Rcv × List Seg × Int :=
  if ¬ (chkR r = 0 ∧ chkG x = 0) then (zeroR, [], 1) else if suits r x = false then (r, [], 0) else (nextR r x, if x.chk = true then [claimR r x] else [], 0)
def hearT (q : Rcv × List Seg × Int) : List Tree := [tI q.1.ses, tI q.1.tot, .sl 2 (q.1.known.map Span.enc), .str q.1.data, .sl 8 (q.2.1.map Seg.enc), tI q.2.2]
theorem union_ok {a b : List Span} (h : unionE a b = 0) : chkL a = 0 ∧ chkL b = 0 ∧ unionL a b = uni a b ∧ chkL (unionL a b) = 0 ∧ ∀ t, memS t (unionL a b) ↔ memS t a ∨ memS t b := by
  unfold unionE at h
  split at h
  · rename_i hc
    split at h
    · omega
    · rename_i hl
      obtain ⟨h1, h2⟩ := uni_spec ((chkL_iff _).1 hc.1).2.1 ((chkL_iff _).1 hc.2).2.1
      have e : unionL a b = uni a b := by unfold unionL; rw [if_pos hc, if_neg hl]
      refine ⟨hc.1, hc.2, e, ?_, by rw [e]; exact h2⟩
      rw [e, chkL_iff]
      refine ⟨by omega, h1, mem_top h1 fun t m => ?_⟩
      rcases (h2 t).1 m with m | m
      · exact top_mem ((chkL_iff _).1 hc.1).2.2 ((chkL_iff _).1 hc.1).2.1 m
      · exact top_mem ((chkL_iff _).1 hc.2).2.2 ((chkL_iff _).1 hc.2).2.1 m
  · omega
theorem suits_iff {r : Rcv} {x : Seg} : suits r x = true ↔ x.kind = 1 ∧ x.ses = r.ses ∧ (r.tot = -1 ∨ x.tot = r.tot) ∧ agree r x ∧ unionE r.known [sp x] = 0 := by unfold suits; rw [decide_eq_true_eq]
theorem next_within {r : Rcv} {x : Seg} (hr : chkR r = 0) (hx : chkG x = 0) (hs : suits r x = true) : Within (unionL r.known [sp x]) x.tot ∧ unionL r.known [sp x] ≠ [] := by
  obtain ⟨h1, h2, h3, h4, h5⟩ := suits_iff.1 hs
  obtain ⟨g1, g2, g3, g4, g5, g6, g7⟩ := seg_data hx h1
  obtain ⟨c1, c2, c3, c4⟩ := chkR_zero hr
  obtain ⟨u1, u2, u3, u4, u5⟩ := union_ok h5
  have hW := rcv_within hr
  have hm : memS x.off (unionL r.known [sp x]) := (u5 _).2 (.inr (.inl ⟨Int.le_refl _, by show x.off < x.off + x.data.size; omega⟩))
  refine ⟨mem_within ((chkL_iff _).1 u4).2.1 fun t m => ?_, fun e => by rw [e] at hm; exact hm⟩
  rcases (u5 t).1 m with m | m
  · have := within_mem hW m
    have h0 : r.tot ≠ -1 := fun h0 => by
      have := c2.2.1.2 h0
      rw [this] at m
      exact m
    have : x.tot = r.tot := by rcases h3 with h | h; exact (h0 h).elim; exact h
    have : (r.data.size : Int) = r.tot := by rw [c3]; unfold sizR; rw [if_neg]; rcases c1.2 with h | h <;> omega
    omega
  · rcases m with m | m
    · have m1 : x.off ≤ t := m.1
      have m2 : t < x.off + x.data.size := m.2
      omega
    · exact m.elim
theorem claim_ok {r : Rcv} {x : Seg} (hr : chkR r = 0) (hx : chkG x = 0) (hs : suits r x = true) (hc : x.chk = true) : chkG (claimR r x) = 0 := by
  obtain ⟨h1, h2, h3, h4, h5⟩ := suits_iff.1 hs
  obtain ⟨g1, g2, g3, g4, g5, g6, g7, g8, g9⟩ := seg_data hx h1
  obtain ⟨c1, c2, c3, c4⟩ := chkR_zero hr
  obtain ⟨u1, u2, u3, u4, u5⟩ := union_ok h5
  have hn : SegNum (claimR r x) := by
    unfold SegNum claimR
    simp only
    have := c1.1
    have := g8 hc
    grind
  have hk : SegCon (claimR r x) := by
    have : inside (unionL r.known [sp x]) x.tot = true := by
      unfold inside
      rw [decide_eq_true_eq]
      exact ⟨u4, (inside_iff u4).2 (next_within hr hx hs).1⟩
    unfold SegCon claimR
    simp only [this]
    simp
    rfl
  unfold chkG
  rw [if_neg (not_not_intro (by simp [claimR])), if_neg (not_not_intro hn), if_neg (not_not_intro hk)]
theorem size_le {r : Rcv} {x : Seg} (hr : chkR r = 0) (hx : chkG x = 0) (hs : suits r x = true) : r.data.size ≤ x.tot.toNat ∧ (r.data.size = 0 ∨ r.data.size = x.tot.toNat) := by
  obtain ⟨h1, h2, h3, h4, h5⟩ := suits_iff.1 hs
  obtain ⟨g1, g2, g3, g4, g5, g6, g7, g8⟩ := seg_data hx h1
  obtain ⟨c1, c2, c3, c4⟩ := chkR_zero hr
  unfold sizR at c3
  rcases c1.2 with h | h
  · rw [if_pos (by omega)] at c3; omega
  · rw [if_neg (by omega)] at c3
    have : x.tot = r.tot := by rcases h3 with h | h <;> omega
    omega
theorem setB_row (l : List UInt8) (p : Nat) (m : List UInt8) (h : p + m.length ≤ l.length) : ((setB l p m).map tb).length = l.length := by rw [List.length_map, setB_len l p m h]
theorem s13 (r : Rcv) (x : Seg) : Runs C 13 (r.enc ++ x.enc) (hearT (hear r x)) := by
  refine Runs.of (fun n => e13 n _ _ _ _ _ _ _ _ _ _ _ _) ?_
  simp only [join_eq]
  refine Ev.rw (s16 r) (fun n h => by simp only [Rcv.enc] at h; simp only [h, vv, reduceCtorEq, Nat.reduceAdd, Nat.reduceEqDiff]; rfl) ?_
  unfold hear
  by_cases hr : chkR r = 0
  · simp only [hr, bne_self_eq_false, vv, reduceCtorEq, Nat.reduceAdd, Nat.reduceEqDiff]
    refine Ev.rw (s38 x) (fun n h => by simp only [Seg.enc] at h; simp only [h, vv, reduceCtorEq, Nat.reduceAdd, Nat.reduceEqDiff]; rfl) ?_
    by_cases hx : chkG x = 0
    · simp only [hx, bne_self_eq_false, J13_1, vv, reduceCtorEq, Nat.reduceAdd, Nat.reduceEqDiff, not_true_eq_false]
      refine Ev.rw (s39 r x hr hx) (fun n h => by simp only [Rcv.enc, Seg.enc, List.cons_append, List.nil_append] at h; simp only [h, vv, reduceCtorEq, Nat.reduceAdd, Nat.reduceEqDiff]; rfl) ?_
      by_cases hs : suits r x = true
      · simp only [hs, vv, reduceCtorEq, Nat.reduceAdd, Nat.reduceEqDiff]
        obtain ⟨h1, h2, h3, h4, h5⟩ := suits_iff.1 hs
        obtain ⟨g1, g2, g3, g4, g5, g6, g7, g8⟩ := seg_data hx h1
        have hsz := (size_le hr hx hs).1
        refine Ev.rw (s40 r x hx) (fun n h => by simp only [Rcv.enc, Seg.enc, List.cons_append, List.nil_append] at h; simp only [h, vv, reduceCtorEq, Nat.reduceAdd, Nat.reduceEqDiff]; rfl) ?_
        have hz : (zerosB x.tot.toNat).length = x.tot.toNat := by simp [zerosB]
        have l1 : (setB (zerosB x.tot.toNat) 0 (bl r.data)).length = x.tot.toNat := by rw [setB_len _ _ _ (by rw [bl_len, hz]; omega), hz]
        have l2 : (newData r x).length = x.tot.toNat := by unfold newData; rw [setB_len _ _ _ (by rw [bl_len, l1]; omega), l1]
        have r1 : List.take x.tot.toNat (strRow r.data) = (bl r.data).map tb := by rw [strRow_bl, List.take_of_length_le (by rw [List.length_map, bl_len]; exact hsz)]
        have r2 : List.take (x.tot.toNat - x.off.toNat) (strRow x.data) = (bl x.data).map tb := by rw [strRow_bl, List.take_of_length_le (by rw [List.length_map, bl_len]; omega)]
        have r0 : List.replicate x.tot.toNat ([Tree.int IntKind.u8 0] : List Tree) = (zerosB x.tot.toNat).map tb := rep_tb _
        have r3 : rowSet (rowSet ((zerosB x.tot.toNat).map tb) 0 ((bl r.data).map tb)) (0 + x.off.toNat) ((bl x.data).map tb) = (newData r x).map tb := by
          rw [rowSet_tb, Nat.zero_add, rowSet_tb]; rfl
        have r4 : List.take x.tot.toNat ((newData r x).map tb) = (newData r x).map tb := by rw [List.take_of_length_le (by rw [List.length_map, l2]; exact Nat.le_refl _)]
        have r5 : (rowSet ((zerosB x.tot.toNat).map tb) 0 ((bl r.data).map tb)).length = x.tot.toNat := by rw [rowSet_tb, List.length_map, l1]
        simp only [Nat.zero_add] at r3
        simp only [r0, r1, r2, r3, r4, r5, Nat.zero_add, okBytes_tb, bytesOf_tb, vv, reduceCtorEq, Nat.reduceAdd, Nat.reduceEqDiff]
        have k1 : (0 : Int) ≤ x.tot := by omega
        have k2 : x.tot ≤ 1073741824 := by omega
        have k3 : x.off ≤ (x.tot.toNat : Int) := by omega
        have k4 : x.off.toNat < x.tot.toNat ∨ x.off.toNat = 0 := .inl (by omega)
        simp only [k1, k2, k3, k4, g3, vv, reduceCtorEq, Nat.reduceAdd, Nat.reduceEqDiff]
        by_cases hc : x.chk = true
        · simp only [hc, vv, reduceCtorEq, Nat.reduceAdd, Nat.reduceEqDiff]
          refine Ev.rw (s41 ((unionL r.known [sp x]).map Span.enc) (by have := chkL_len (union_ok h5).2.2.2.1; rw [List.length_map]; omega)) (fun n h => by simp only [h, vv, reduceCtorEq, Nat.reduceAdd, Nat.reduceEqDiff]; rfl) ?_
          have hcl := claim_ok hr hx hs hc
          refine (s26 r.ses x.ser x.tot (unionL r.known [sp x])).mono fun n h => ?_
          unfold claimR at hcl
          rw [if_pos hcl] at h
          simp only [Seg.enc, List.cons_append, List.nil_append] at h
          simp only [h, bne_self_eq_false, vv, reduceCtorEq, Nat.reduceAdd, Nat.reduceEqDiff]
          rfl
        · have hc' : x.chk = false := by simpa using hc
          simp only [hc', vv, reduceCtorEq, Nat.reduceAdd, Nat.reduceEqDiff]
          exact Ev.of fun n => rfl
      · have hs' : suits r x = false := by simpa using hs
        simp only [hs', vv, reduceCtorEq, Nat.reduceAdd, Nat.reduceEqDiff]
        exact Ev.of fun n => rfl
    · have hb : (chkG x != 0) = true := by simpa using hx
      simp only [hb, hx, J13_1, vv, reduceCtorEq, Nat.reduceAdd, Nat.reduceEqDiff, not_false_eq_true]
      exact Ev.of fun n => rfl
  · have hb : (chkR r != 0) = true := by simpa using hr
    simp only [hb, hr, J13_1, vv, reduceCtorEq, Nat.reduceAdd, Nat.reduceEqDiff, not_false_eq_true]
    exact Ev.of fun n => rfl
theorem s44 (ses ser tot : Int) (l : List Span) : Runs C 44 [tI ses, tI ser, tI tot, .sl 2 (l.map Span.enc)] (if chkG ⟨2, ses, ser, 0, tot, false, ByteArray.mk #[], l⟩ = 0 then (Seg.enc ⟨2, ses, ser, 0, tot, false, ByteArray.mk #[], l⟩) ++ [tI 0] else (Seg.enc ⟨0, 0, 0, 0, 0, false, ByteArray.mk #[], []⟩) ++ [tI (chkG ⟨2, ses, ser, 0, tot, false, ByteArray.mk #[], l⟩)]) := by
  refine Runs.of (fun n => e44 n _ _ _ _) ?_
  refine (s27 ⟨2, ses, ser, 0, tot, false, ByteArray.mk #[], l⟩).mono fun n h => ?_
  simp only [Seg.enc] at h
  simp only [h, vv, reduceCtorEq, Nat.reduceAdd, Nat.reduceEqDiff]
  by_cases hc : chkG ⟨2, ses, ser, 0, tot, false, ByteArray.mk #[], l⟩ = 0
  · simp [hc, cnd_eq, Seg.enc]
  · simp [hc, cnd_eq, Seg.enc, bne]
theorem row_set (l : List UInt8) (p : Nat) (m : List UInt8) (i : Nat) (b : UInt8) (hb : m[i]? = some b) (h : p + m.length ≤ l.length) (y : List Tree) (hy : ((setB l p (m.take i)).map tb)[p + i]? = some y) :
    List.set ((setB l p (m.take i)).map tb) (p + i) ([Tree.int IntKind.u8 (b.toNat : Int)] ++ List.drop 1 y) = (setB l p (m.take (i + 1))).map tb := by
  have hi := lt_of_some hb
  rw [get_tb] at hy
  obtain ⟨c, hc, rfl⟩ := Option.map_eq_some_iff.1 hy
  have e : [Tree.int IntKind.u8 (b.toNat : Int)] ++ List.drop 1 (tb c) = tb b := rfl
  rw [e, set_tb, ← getD_at hb, setB_step l p m i hi h]
theorem setB_none (l : List UInt8) (p : Nat) : setB l p [] = l := by simp [setB]
theorem row_some (l : List UInt8) (k : Nat) (h : k < l.length) : ∃ y, (l.map tb)[k]? = some y := ⟨_, List.getElem?_eq_getElem (by rw [List.length_map]; exact h)⟩
theorem hear14_1 (r : Rcv) (x : Seg) (b0 b1 : Int) (b2 : List (List Tree)) (b3 : ByteArray) (hr : chkR r = 0) (hx : chkG x = 0) (hs : suits r x = true) :
    Ev fun n => loopIter (fun p again => L14_1 n x.data x.off x.tot (r.known.map Span.enc) x.chk r.ses x.ser p again) n ([.t (tI 0)], [.box [.t (tI b0), .t (tI b1), .t (.sl 2 b2), .t (.str b3)], .row false 0 1 ((setB (zerosB x.tot.toNat) 0 (bl r.data)).map tb)]) = some (hearT (nextR r x, if x.chk = true then [claimR r x] else [], 0)) := by
  obtain ⟨h1, h2, h3, h4, h5⟩ := suits_iff.1 hs
  obtain ⟨g1, g2, g3, g4, g5, g6, g7, g8⟩ := seg_data hx h1
  have hsz := (size_le hr hx hs).1
  have hz : (zerosB x.tot.toNat).length = x.tot.toNat := by simp [zerosB]
  have l1 : (setB (zerosB x.tot.toNat) 0 (bl r.data)).length = x.tot.toNat := by rw [setB_len _ _ _ (by rw [bl_len, hz]; omega), hz]
  have l2 : (newData r x).length = x.tot.toNat := by unfold newData; rw [setB_len _ _ _ (by rw [bl_len, l1]; omega), l1]
  refine loop_overQ (fun (q : List Tree) => q) (bl x.data) (fun i (_ : Unit) => (([.t (tI i)], [.box [.t (tI b0), .t (tI b1), .t (.sl 2 b2), .t (.str b3)], .row false 0 1 ((setB (setB (zerosB x.tot.toNat) 0 (bl r.data)) x.off.toNat ((bl x.data).take i)).map tb)]) : List AV × Heap)) (fun i (_ : Unit) (b : UInt8) => .next ()) (fun _ => hearT (nextR r x, if x.chk = true then [claimR r x] else [], 0)) (fun _ _ => True) () ?_ trivial
    ?_ (fun i s b hb hI => Ev.of fun n again => ?_) (fun _ _ _ _ _ _ _ => trivial) (fun s hI => ?_)
  · simp [setB_none]
  · rw [runL_fold]
  · have hi := lt_of_some hb
    rw [bl_len] at hi
    obtain ⟨y, hy⟩ := row_some (setB (setB (zerosB x.tot.toNat) 0 (bl r.data)) x.off.toNat ((bl x.data).take i)) (x.off.toNat + i) (by rw [setB_len _ _ _ (by rw [l1, List.length_take, bl_len]; omega), l1]; omega)
    have hset := row_set _ _ _ i b hb (by rw [bl_len, l1]; omega) y hy
    have ew := w64_id (show -9223372036854775808 ≤ x.off + (i : Int) by omega) (by omega)
    have et : (x.off + (i : Int)).toNat = x.off.toNat + i := by omega
    simp only [L14_1, vv, reduceCtorEq, Nat.reduceAdd, Nat.reduceEqDiff, ew, et, Nat.zero_add, hy, byteAt_bl, getD_at hb, (show (i : Int) < x.data.size by omega), w64_succ (show i < 4611686018427387904 by omega), Rd.go_next, Nat.le_refl]
    rw [cnd_pos (by omega), hset]
  · have e1 : (bl x.data).take (bl x.data).length = bl x.data := List.take_length
    have r4 : List.take x.tot.toNat ((newData r x).map tb) = (newData r x).map tb := by rw [List.take_of_length_le (by rw [List.length_map, l2]; exact Nat.le_refl _)]
    have hu := s43 r.known [sp x]
    have e2 : setB (setB (zerosB x.tot.toNat) 0 (bl r.data)) x.off.toNat (bl x.data) = newData r x := rfl
    have ew := w64_id (show -9223372036854775808 ≤ x.off + (x.data.size : Int) by omega) (by omega)
    by_cases hc : x.chk = true
    · have hb := s44 r.ses x.ser x.tot (unionL r.known [sp x])
      have hcl := claim_ok hr hx hs hc
      unfold claimR at hcl
      rw [if_pos hcl] at hb
      refine (hu.and hb).mono fun n h again => ?_
      obtain ⟨h, hb⟩ := h
      rw [unionP_eq] at h
      simp only [List.map_cons, List.map_nil, sp, Span.enc] at h
      simp only [Seg.enc, List.cons_append, List.nil_append, sp] at hb
      simp only [e1, e2]
      simp only [L14_1, vv, reduceCtorEq, Nat.reduceAdd, Nat.reduceEqDiff, r4, okBytes_tb, bytesOf_tb, bl_len, Int.lt_irrefl, ew, h, hc, hb]
      rfl
    · have hc' : x.chk = false := by simpa using hc
      refine hu.mono fun n h again => ?_
      rw [unionP_eq] at h
      simp only [List.map_cons, List.map_nil, sp, Span.enc] at h
      simp only [e1, e2]
      simp only [L14_1, vv, reduceCtorEq, Nat.reduceAdd, Nat.reduceEqDiff, r4, okBytes_tb, bytesOf_tb, bl_len, Int.lt_irrefl, ew, h, hc']
      rfl
theorem hear14_2 (r : Rcv) (x : Seg) (b0 b1 : Int) (b2 : List (List Tree)) (b3 : ByteArray) (hr : chkR r = 0) (hx : chkG x = 0) (hs : suits r x = true) :
    Ev fun n => loopIter (fun p again => L14_2 n r.data x.tot x.data x.off (r.known.map Span.enc) x.chk r.ses x.ser p again) n ([.t (tI 0)], [.box [.t (tI b0), .t (tI b1), .t (.sl 2 b2), .t (.str b3)], .row false 0 1 ((zerosB x.tot.toNat).map tb)]) = some (hearT (nextR r x, if x.chk = true then [claimR r x] else [], 0)) := by
  have hsz := (size_le hr hx hs).1
  have hbd := seg_bounds hx
  have hz : (zerosB x.tot.toNat).length = x.tot.toNat := by simp [zerosB]
  refine loop_overQ (fun (q : List Tree) => q) (bl r.data) (fun i (_ : Unit) => (([.t (tI i)], [.box [.t (tI b0), .t (tI b1), .t (.sl 2 b2), .t (.str b3)], .row false 0 1 ((setB (zerosB x.tot.toNat) 0 ((bl r.data).take i)).map tb)]) : List AV × Heap)) (fun i (_ : Unit) (b : UInt8) => .next ()) (fun _ => hearT (nextR r x, if x.chk = true then [claimR r x] else [], 0)) (fun _ _ => True) () ?_ trivial
    ?_ (fun i s b hb hI => Ev.of fun n again => ?_) (fun _ _ _ _ _ _ _ => trivial) (fun s hI => ?_)
  · simp only [List.take_zero, setB_none]; rfl
  · rw [runL_fold]
  · have hi := lt_of_some hb
    rw [bl_len] at hi
    obtain ⟨y, hy⟩ := row_some (setB (zerosB x.tot.toNat) 0 ((bl r.data).take i)) (0 + i) (by rw [setB_len _ _ _ (by rw [hz, List.length_take, bl_len]; omega), hz]; omega)
    have hset := row_set _ 0 _ i b hb (by rw [bl_len, hz]; omega) y hy
    simp only [Nat.zero_add] at hy hset
    simp only [L14_2, vv, reduceCtorEq, Nat.reduceAdd, Nat.reduceEqDiff, Nat.zero_add, hy, byteAt_bl, getD_at hb, (show (i : Int) < r.data.size by omega), w64_succ (show i < 4611686018427387904 by omega), Rd.go_next, Nat.le_refl]
    rw [cnd_pos (by omega), hset]
  · refine (hear14_1 r x b0 b1 b2 b3 hr hx hs).mono fun n h again => ?_
    have e1 : (bl r.data).take (bl r.data).length = bl r.data := List.take_length
    simp only [e1]
    simp only [L14_2, vv, reduceCtorEq, Nat.reduceAdd, Nat.reduceEqDiff, bl_len, Int.lt_irrefl]
    exact h
theorem s14 (r : Rcv) (x : Seg) : Runs C 14 (r.enc ++ x.enc) (hearT (hear r x)) := by
  refine Runs.of (fun n => e14 n _ _ _ _ _ _ _ _ _ _ _ _) ?_
  simp only [join_eq]
  refine Ev.rw (s17 r) (fun n h => by simp only [Rcv.enc] at h; simp only [h, vv, reduceCtorEq, Nat.reduceAdd, Nat.reduceEqDiff]; rfl) ?_
  unfold hear
  by_cases hr : chkR r = 0
  · simp only [hr, bne_self_eq_false, vv, reduceCtorEq, Nat.reduceAdd, Nat.reduceEqDiff]
    refine Ev.rw (s27 x) (fun n h => by simp only [Seg.enc] at h; simp only [h, vv, reduceCtorEq, Nat.reduceAdd, Nat.reduceEqDiff]; rfl) ?_
    by_cases hx : chkG x = 0
    · simp only [hx, bne_self_eq_false, J14_3, vv, reduceCtorEq, Nat.reduceAdd, Nat.reduceEqDiff, not_true_eq_false]
      refine Ev.rw (s42 r x hr hx) (fun n h => by simp only [Rcv.enc, Seg.enc, List.cons_append, List.nil_append] at h; simp only [h, vv, reduceCtorEq, Nat.reduceAdd, Nat.reduceEqDiff]; rfl) ?_
      by_cases hs : suits r x = true
      · simp only [hs, vv, reduceCtorEq, Nat.reduceAdd, Nat.reduceEqDiff]
        obtain ⟨h1, h2, h3, h4, h5⟩ := suits_iff.1 hs
        obtain ⟨g1, g2, g3, g4, g5, g6, g7, g8⟩ := seg_data hx h1
        have hsz := (size_le hr hx hs).1
        have hz : (zerosB x.tot.toNat).length = x.tot.toNat := by simp [zerosB]
        have r0 : List.replicate x.tot.toNat ([Tree.int IntKind.u8 0] : List Tree) = (zerosB x.tot.toNat).map tb := rep_tb _
        have k1 : (0 : Int) ≤ x.tot := by omega
        have k2 : x.tot ≤ 1073741824 := by omega
        simp only [k1, k2, r0, vv, reduceCtorEq, Nat.reduceAdd, Nat.reduceEqDiff]
        exact hear14_2 r x _ _ _ _ hr hx hs
      · have hs' : suits r x = false := by simpa using hs
        simp only [hs', vv, reduceCtorEq, Nat.reduceAdd, Nat.reduceEqDiff]
        exact Ev.of fun n => rfl
    · have hb : (chkG x != 0) = true := by simpa using hx
      simp only [hb, hx, J14_3, vv, reduceCtorEq, Nat.reduceAdd, Nat.reduceEqDiff, not_false_eq_true]
      exact Ev.of fun n => rfl
  · have hb : (chkR r != 0) = true := by simpa using hr
    simp only [hb, hr, J14_3, vv, reduceCtorEq, Nat.reduceAdd, Nat.reduceEqDiff, not_false_eq_true]
    exact Ev.of fun n => rfl
end Ab
