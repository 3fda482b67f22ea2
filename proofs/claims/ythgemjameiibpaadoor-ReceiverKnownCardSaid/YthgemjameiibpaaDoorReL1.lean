/- Receiver: the laws Hear and Data. -/
import Derived.Test.YthgemjameiibpaaDoorReV
set_option linter.unusedVariables false
set_option linter.unusedSimpArgs false
namespace Ab
open Go

theorem chkR_len {r : Rcv} (h : chkR r = 0) : r.known.length ≤ 1000 := chkL_len (chkR_zero h).2.1.1
theorem hear_len (r : Rcv) (x : Seg) (hr : r.known.length ≤ 1000000) : (hear r x).1.known.length ≤ 1000000 ∧ (hear r x).2.1.length ≤ 1000000 ∧ ∀ y ∈ (hear r x).2.1, y.claims.length ≤ 1000000 := by
  unfold hear
  split
  · exact ⟨by decide, by decide, fun y hy => by cases hy⟩
  · rename_i h0
    split
    · exact ⟨hr, by simp, fun y hy => by cases hy⟩
    · rename_i h1
      obtain ⟨k1, k2⟩ := Classical.not_not.1 h0
      have hs : suits r x = true := by simpa using h1
      have hl := chkL_len (union_ok (suits_iff.1 hs).2.2.2.2).2.2.2.1
      refine ⟨by show (unionL _ _).length ≤ _; omega, by dsimp only; split <;> simp, fun y hy => ?_⟩
      dsimp only at hy
      split at hy
      · simp only [List.mem_singleton] at hy
        subst hy
        show (unionL _ _).length ≤ _
        omega
      · cases hy
theorem s3 (r : Rcv) (x : Seg) (n : Int) : Runs C 3 (r.enc ++ x.enc ++ [tI n]) [.bool true] := by
  refine Runs.of (fun m => e3 m _ _ _ _ _ _ _ _ _ _ _ _ _) ?_
  refine Ev.rw (s9 r [x]) (fun m h => by simp only [Rcv.enc, Seg.enc, List.map_cons, List.map_nil, List.cons_append, List.nil_append] at h; simp only [h, vv, reduceCtorEq, Nat.reduceAdd, Nat.reduceEqDiff]; rfl) ?_
  cases hg : great r [x] with
  | true =>
    simp only [vv, reduceCtorEq, Nat.reduceAdd, Nat.reduceEqDiff]
    exact s10.mono fun m h => by simp only [h, vv, reduceCtorEq, Nat.reduceAdd, Nat.reduceEqDiff]
  | false =>
    simp only [vv, reduceCtorEq, Nat.reduceAdd, Nat.reduceEqDiff]
    have hr : r.known.length ≤ 1000000 := by
      simp only [great, Bool.or_eq_false_iff, greatR, decide_eq_false_iff_not] at hg
      omega
    obtain ⟨l1, l2, l3⟩ := hear_len r x hr
    refine ((s11 n).and ((s12 n).and ((s13 r x).and ((s14 r x).and ((s15 (newR n).1 (newR n).1 (by unfold newR; split <;> simp [zeroR])).and ((s16 r).and ((s17 r).and ((s15 (hear r x).1 (hear r x).1 l1).and ((s18 (hear r x).2.1 (hear r x).2.1 l2 l3).and s10))))))))).mono fun m h => ?_
    obtain ⟨h1, h2, h3, h4, h5, h6, h7, h8, h9, h10⟩ := h
    generalize hear r x = q at *
    generalize newR n = p at *
    simp only [Rcv.enc, Seg.enc, List.cons_append, List.nil_append, hearT] at h1 h2 h3 h4 h5 h6 h7 h8 h9 h10
    simp only [h1, h2, h3, h4, h5, h6, h7, h8, h9, h10, vv, reduceCtorEq, Nat.reduceAdd, Nat.reduceEqDiff, beq_self_eq_true]
theorem s4 (r : Rcv) : Runs C 4 r.enc [.bool true] := by
  refine Runs.of (fun m => e4 m _ _ _ _) ?_
  refine Ev.rw (s9 r []) (fun m h => by simp only [Rcv.enc, List.map_nil, List.cons_append, List.nil_append] at h; simp only [h, vv, reduceCtorEq, Nat.reduceAdd, Nat.reduceEqDiff]; rfl) ?_
  cases hg : great r [] with
  | true =>
    simp only [vv, reduceCtorEq, Nat.reduceAdd, Nat.reduceEqDiff]
    exact s10.mono fun m h => by simp only [h, vv, reduceCtorEq, Nat.reduceAdd, Nat.reduceEqDiff]
  | false =>
    simp only [vv, reduceCtorEq, Nat.reduceAdd, Nat.reduceEqDiff]
    refine ((s19 r).and ((s20 r).and ((s21 r).and ((s22 r).and s10)))).mono fun m h => ?_
    obtain ⟨h1, h2, h3, h4, h5⟩ := h
    simp only [Rcv.enc] at h1 h2 h3 h4 h5
    simp only [h1, h2, h3, h4, h5, vv, reduceCtorEq, Nat.reduceAdd, Nat.reduceEqDiff, beq_self_eq_true]
    have e : ((dataR r).1 == (dataR r).1) = true := by rw [beq_bytes]; exact decide_eq_true rfl
    simp only [e, vv, reduceCtorEq, Nat.reduceAdd, Nat.reduceEqDiff]
end Ab
