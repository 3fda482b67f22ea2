/- Receiver: the law Keeps. -/
import Derived.Test.YthgemjameiibpaaDoorReL2
import Derived.Test.YthgemjameiibpaaDoorReL1
set_option linter.unusedVariables false
set_option linter.unusedSimpArgs false
namespace Ab
open Go

theorem inner6 (k : List Span) (y : Span) (q : List Tree) (hq : gL q 2 = k.map Span.enc) (hk : k.length ≤ 1000000) : Ev fun n => ∀ z : List AV × Heap → Option (List Tree), loopIter (fun p again => L6_8 n q z y.enc p again) n ([.t (tI 0)], [.box [], .box []]) = z ([.t (tI (idx (inSpan y) k))], [.box [], .box []]) := by
  refine loop_overZ k (fun i (_ : Unit) => (([.t (tI i)], [.box [], .box []]) : List AV × Heap)) (fun i (_ : Unit) x => if inSpan y x = true then .done (i : Int) else .next ()) (fun _ => (-1 : Int)) (fun (z : List AV × Heap → Option (List Tree)) (j : Int) => z ([AV.t (tI j)], [.box [], .box []])) (fun _ _ => True) () rfl trivial (find_run0 (inSpan y) k)
    (fun i s x hx hI => Ev.of fun n z again => ?_) (fun _ _ _ _ _ _ _ => trivial) (fun s hI => Ev.of fun n z again => ?_)
  · have hi := lt_of_some hx
    simp only [L6_8, J6_7, hq, vv, reduceCtorEq, Nat.reduceAdd, Nat.reduceEqDiff, hx, Span.enc, (show (i : Int) < k.length by omega), w64_succ (show i < 4611686018427387904 by omega), inSpan]
    by_cases h1 : x.fro ≤ y.fro <;> by_cases h2 : y.to ≤ x.to <;> simp [h1, h2, cnd_eq, Rd.go_next, Rd.go_done, vv]
  · simp only [L6_8, hq, vv, reduceCtorEq, Nat.reduceAdd, Nat.reduceEqDiff, Int.lt_irrefl]
theorem loop6 (r : Rcv) (x : Seg) (hr : chkR r = 0) (hx : chkG x = 0) : Ev fun n => loopIter (fun p again => L6_12 n (r.known.map Span.enc) (hearT (hear r x)) r.data r.ses r.tot p again) n ([.t (tI 0)], [.box []]) = some [.bool true] := by
  obtain ⟨c1, c2, c3, c4⟩ := chkR_zero hr
  have hlen := chkL_len c2.1
  have hW := rcv_within hr
  have hkl := chkR_len (hear_valid hr hx)
  have hcan := canon_pos ((chkL_iff r.known).1 c2.1).2.1
  refine loop_overQ (fun (b : Bool) => [Tree.bool b]) r.known (fun i (_ : Unit) => (([.t (tI i)], [.box []]) : List AV × Heap)) (fun _ (_ : Unit) _ => .next ()) (fun _ => true) (fun _ _ => True) () rfl trivial (runL_fold _ _ _ _ _)
    (fun i s y hy hI => ?_) (fun _ _ _ _ _ _ _ => trivial) (fun s hI => ?_)
  · have hi := lt_of_some hy
    have hym := List.mem_of_getElem? hy
    obtain ⟨k1, k2, k3⟩ := keeps_span hr hx hym
    have hyw := hW y hym
    have hyc := hcan y hym
    refine (inner6 (hear r x).1.known y (hearT (hear r x)) rfl (by omega)).mono fun n h again => ?_
    have hid := (idx_nonneg (inSpan y) (hear r x).1.known).2 k1
    simp only [Span.enc] at h
    simp only [L6_12, J6_11, J6_10, J6_9, vv, reduceCtorEq, Nat.reduceAdd, Nat.reduceEqDiff, hy, Span.enc, (show (i : Int) < r.known.length by omega), w64_succ (show i < 4611686018427387904 by omega), h, hid]
    have e1 : gS (hearT (hear r x)) 3 = (hear r x).1.data := rfl
    simp only [e1]
    rw [cnd_pos (by omega), cnd_pos (by omega), cnd_pos (by omega), cnd_pos (by omega), k3]
    simp [Rd.go_next, bne, beq_bytes, cnd_eq]
  · refine ((s21 r).and ((s21 (hear r x).1).and s10)).mono fun n h again => ?_
    obtain ⟨h1, h2, h3⟩ := h
    have hkc := keeps_complete (x := x) hr hx
    generalize hear r x = q at *
    simp only [Rcv.enc] at h1 h2
    have e2 : gS (hearT q) 3 = q.1.data := rfl
    have e3 : gL (hearT q) 2 = q.1.known.map Span.enc := rfl
    have e4 : gI (hearT q) 0 = q.1.ses := rfl
    have e5 : gI (hearT q) 1 = q.1.tot := rfl
    simp only [L6_12, vv, reduceCtorEq, Nat.reduceAdd, Nat.reduceEqDiff, Int.lt_irrefl, h1, e2, e3, e4, e5, h2, h3]
    cases hc : complete r with
    | true => simp only [hkc hc, vv, reduceCtorEq, Nat.reduceAdd, Nat.reduceEqDiff]
    | false => simp only [vv, reduceCtorEq, Nat.reduceAdd, Nat.reduceEqDiff]
theorem s6 (r : Rcv) (x : Seg) : Runs C 6 (r.enc ++ x.enc) [.bool true] := by
  refine Runs.of (fun m => e6 m _ _ _ _ _ _ _ _ _ _ _ _) ?_
  simp only [join_eq]
  have hw : ∀ m, apure C m 10 [] = some [Tree.bool true] → J6_19 m r.ses r.tot (r.known.map Span.enc) r.data x.kind x.ses x.ser x.off x.tot x.chk x.data (x.claims.map Span.enc) ([AV.t (Tree.bool true)], []) = some [Tree.bool true] := fun m h => by
    simp only [J6_19, vv, reduceCtorEq, Nat.reduceAdd, Nat.reduceEqDiff, h]
  refine Ev.rw (s9 r [x]) (fun m h => by simp only [Rcv.enc, Seg.enc, List.map_cons, List.map_nil, List.cons_append, List.nil_append] at h; simp only [h, vv, reduceCtorEq, Nat.reduceAdd, Nat.reduceEqDiff]; rfl) ?_
  cases hg : great r [x] with
  | true =>
    simp only [vv, reduceCtorEq, Nat.reduceAdd, Nat.reduceEqDiff]
    exact s10.mono hw
  | false =>
    simp only [vv, reduceCtorEq, Nat.reduceAdd, Nat.reduceEqDiff]
    refine Ev.rw (s17 r) (fun m h => by simp only [Rcv.enc] at h; simp only [h, vv, reduceCtorEq, Nat.reduceAdd, Nat.reduceEqDiff]; rfl) ?_
    by_cases hr : chkR r = 0
    · simp only [hr, bne_self_eq_false, vv, reduceCtorEq, Nat.reduceAdd, Nat.reduceEqDiff]
      refine Ev.rw (s27 x) (fun m h => by simp only [Seg.enc] at h; simp only [h, vv, reduceCtorEq, Nat.reduceAdd, Nat.reduceEqDiff]; rfl) ?_
      by_cases hx : chkG x = 0
      · simp only [hx, bne_self_eq_false, vv, reduceCtorEq, Nat.reduceAdd, Nat.reduceEqDiff]
        simp only [J6_19, vv, reduceCtorEq, Nat.reduceAdd, Nat.reduceEqDiff]
        refine Ev.rw (s13 r x) (fun m h => by simp only [Rcv.enc, Seg.enc, List.cons_append, List.nil_append] at h; simp only [h, vv, reduceCtorEq, Nat.reduceAdd, Nat.reduceEqDiff]; rfl) ?_
        have hv := hear_valid hr hx
        obtain ⟨k1, k2, k3, k4, k5⟩ := keeps_tot hr hx
        have hlp := loop6 r x hr hx
        have hl : (hearT (hear r x)).length = 6 := rfl
        generalize hear r x = q at *
        have e0 : gI (hearT q) 0 = q.1.ses := rfl
        have e1 : gI (hearT q) 1 = q.1.tot := rfl
        have e2 : gL (hearT q) 2 = q.1.known.map Span.enc := rfl
        have e3 : gS (hearT q) 3 = q.1.data := rfl
        have e4 : gL (hearT q) 4 = q.2.1.map Seg.enc := rfl
        have e5 : gI (hearT q) 5 = q.2.2 := rfl
        have o0 : okI (hearT q) 0 := by simp [hearT, vv]
        have o1 : okI (hearT q) 1 := by simp [hearT, vv]
        have o2 : okL 2 (hearT q) 2 := by simp [hearT, vv]
        have o3 : okS (hearT q) 3 := by simp [hearT, vv]
        have o4 : okL 8 (hearT q) 4 := by simp [hearT, vv]
        have o5 : okI (hearT q) 5 := by simp [hearT, vv]
        simp only [hl, e0, e1, e2, e3, e4, e5, o0, o1, o2, o3, o4, o5, k1, k5, bne_self_eq_false, vv, reduceCtorEq, Nat.reduceAdd, Nat.reduceEqDiff]
        refine Ev.rw (s16 q.1) (fun m h => by simp only [Rcv.enc, k1] at h; simp only [h, hv, bne_self_eq_false, vv, reduceCtorEq, Nat.reduceAdd, Nat.reduceEqDiff]; rfl) ?_
        simp only [(show ¬ (1 : Int) < (q.2.1.length : Int) by omega), (show ¬ (q.1.data.size : Int) < (r.data.size : Int) by omega), vv, reduceCtorEq, Nat.reduceAdd, Nat.reduceEqDiff]
        by_cases h0 : 0 ≤ r.tot
        · simp only [h0, k2 h0, bne_self_eq_false, vv, reduceCtorEq, Nat.reduceAdd, Nat.reduceEqDiff]
          exact hlp
        · simp only [h0, vv, reduceCtorEq, Nat.reduceAdd, Nat.reduceEqDiff]
          exact hlp
      · have hb : (chkG x != 0) = true := by simpa using hx
        simp only [hb, vv, reduceCtorEq, Nat.reduceAdd, Nat.reduceEqDiff]
        exact s10.mono hw
    · have hb : (chkR r != 0) = true := by simpa using hr
      simp only [hb, vv, reduceCtorEq, Nat.reduceAdd, Nat.reduceEqDiff]
      exact s10.mono hw
end Ab
