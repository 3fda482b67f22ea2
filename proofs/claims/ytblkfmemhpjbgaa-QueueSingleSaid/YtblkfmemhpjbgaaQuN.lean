/- Parts of the proof: see the last text. -/
import Derived.Test.YtblkfmemhpjbgaaQuK
set_option linter.unusedVariables false
set_option linter.unusedSimpArgs false
set_option maxHeartbeats 1000000
namespace Ab
open Go


/-- What expires, ahead of interruptions. -/
theorem x1 {rate t : Int} (s : QS) (v : Nat) (es : List (List Tree)) (he : Holds s.wait es) (hl : s.wait.length ≤ 64) (p6 p28 : List AV × Heap) (h6 : vI p6 0 = t) (hp : p28.2 = hP1 rate s v es) :
    ∃ es', Holds (freshQ s.wait t) es' ∧ Ev fun n => ∀ z, loopIter (fun p again => L13_4 n p28 p6 (fun q => J13_7 n z p28 p6 q) p again) n ([.t (tI 0)], hP1 rate s v es)
      = z ([], hP1 rate { s with wait := freshQ s.wait t } v es') := by
  have c1 : cLen p28 4 2 = s.wait.length := by unfold cLen; rw [hp]; rfl
  have c2 : cVer p28 4 2 = v := by unfold cVer; rw [hp]; rfl
  have c3 : cOff p28 4 2 = 0 := by unfold cOff; rw [hp]; rfl
  have k1 := loop_overZ (R := List Tree) (Z := List AV × Heap → Option (List Tree)) (B := fun n z p again => L13_4 n p28 p6 z p again) (s := (([.t (tI 0)], hP1 rate s v es) : List AV × Heap)) s.wait
    (fun i (_ : Unit) => (([.t (tI i)], hP1 rate s v es) : List AV × Heap))
    (fun i _ x => if decide (x.exp ≤ t) = true then .done (i : Int) else .next ()) (fun _ => -1) (fun z (q : Int) => z ([.t (tI q)], hP1 rate s v es)) (fun _ _ => True) () rfl trivial (find_run0 _ _)
    (fun i u x hx hI => Ev.of fun n z again => ?_) (fun _ _ _ _ _ _ _ => trivial) (fun u hI => Ev.of fun n z again => ?_)
  · rw [fresh_eq]
    rcases idx_cases (fun x : Entry => decide (x.exp ≤ t)) s.wait with ⟨hi, hn⟩ | ⟨i, x, hi, hx, hpx, hb⟩
    · rw [hi] at k1
      have e2 : s.wait.filter (fun x => !decide (x.exp ≤ t)) = s.wait := filter_none fun j y _ hy => hn y (List.mem_of_getElem? hy)
      rw [e2]
      refine ⟨es, he, k1.mono fun n h z => ?_⟩
      rw [h]
      simp only [J13_7, hP1, bxS, c1, c2, c3, vv, reduceCtorEq, Nat.reduceAdd, Nat.reduceEqDiff, beq_self_eq_true]
    · rw [hi] at k1
      have hil := lt_of_some hx
      obtain ⟨ex, rfl⟩ := he
      refine ⟨(s.wait.filter (fun x => !decide (x.exp ≤ t))).map Entry.enc ++ (List.replicate (s.wait.length - (s.wait.filter (fun x => !decide (x.exp ≤ t))).length) zE ++ ex), ⟨_, rfl⟩, ?_⟩
      have k2 := del_overZ (R := List Tree) (Z := List AV × Heap → Option (List Tree)) (B := fun n z p again => L13_6 n p28 p6 z p again)
        (fun z (r : List Entry) => z ([], hP1 rate { s with wait := r } v (r.map Entry.enc ++ (List.replicate (s.wait.length - r.length) zE ++ ex)))) (fun x => decide (x.exp ≤ t)) s.wait
        (fun (d : DS Entry) => (([.t (tI d.i), .t (tI d.j)], hP1 rate s v (d.es.map Entry.enc ++ ex)) : List AV × Heap)) ⟨i, i + 1, s.wait⟩ rfl (DInv.start hx hpx hb) (fun d hD => Ev.of fun n z again => ?_)
      · refine (k1.and k2).mono fun n h z => ?_
        rw [h.1]
        have h2 := h.2 z
        simp only [hP1, bxS] at h2
        simp only [J13_7, hP1, bxS, c1, c2, c3, vv, reduceCtorEq, Nat.reduceAdd, Nat.reduceEqDiff, (show (((i : Nat) : Int) == -1) = false by simp), w64_succ (show i < 4611686018427387904 by omega)]
        exact h2
      · have hat := hD.at
        obtain ⟨i', j, es1⟩ := d
        obtain ⟨d1, d2, d3, d4, d5⟩ := hD
        simp only at d1 d2 d3 d4 d5 hat
        unfold dstep
        simp only
        cases hy : s.wait[j]? with
        | none =>
          have hj : s.wait.length ≤ j := by simpa using hy
          have hrf := rowFin (ex := ex) (i := i') d3 (by omega)
          have htl : (es1.take i').length = i' := by simp; omega
          have hlen1 : i' < (es1.map Entry.enc ++ ex).length := by simp; omega
          have hlen2 : (i' : Int) ≤ (((rowSet (es1.map Entry.enc ++ ex) i' (List.replicate (s.wait.length - i') zE)).length : Nat) : Int) := by rw [hrf]; simp; omega
          have hlen3 : 0 < (rowSet (es1.map Entry.enc ++ ex) i' (List.replicate (s.wait.length - i') zE)).length := by rw [hrf]; simp; omega
          simp only [zE] at hrf hlen2 hlen3
          simp only [L13_6, hP1, bxS, c1, c2, c3, vv, reduceCtorEq, Nat.reduceAdd, Nat.reduceEqDiff, Nat.sub_zero, (show ¬ (j : Int) < (s.wait.length : Int) by omega), (show (i' : Int) ≤ (s.wait.length : Int) by omega), hlen1, hlen2, hlen3, Rd.go_done, htl, zE]
          rw [hrf]
        | some y =>
          have hj := lt_of_some hy
          have hi2 : es1[i']? = some es1[i'] := List.getElem?_eq_getElem (by omega)
          have hg1 : (es1.map Entry.enc ++ ex)[j]? = some y.enc := by rw [List.getElem?_append_left (by simp; omega), List.getElem?_map, hat, hy]; rfl
          have hg2 : (es1.map Entry.enc ++ ex)[i']? = some (es1[i']).enc := by rw [List.getElem?_append_left (by simp; omega), List.getElem?_map, hi2]; rfl
          have hset : List.set (es1.map Entry.enc ++ ex) i' y.enc = (es1.set i' y).map Entry.enc ++ ex := by rw [List.set_append_left _ _ (by simp; omega), List.map_set]
          simp only [Entry.enc] at hset hg1 hg2
          simp only [L13_6, J13_5, hP1, bxS, c1, c2, c3, vv, reduceCtorEq, Nat.reduceAdd, Nat.reduceEqDiff, (show (j : Int) < (s.wait.length : Int) by omega), hg1, hg2, h6, (show (i' : Int) < (s.wait.length : Int) by omega), Nat.le_refl, w64_succ (show i' < 4611686018427387904 by omega), w64_succ (show j < 4611686018427387904 by omega), List.drop_succ_cons, List.append_nil, List.drop_nil, List.cons_append, List.nil_append]
          by_cases hpy : y.exp ≤ t
          · simp only [hpy, vv, reduceCtorEq, Nat.reduceAdd, Nat.reduceEqDiff, Rd.go_next]
          · simp only [hpy, vv, reduceCtorEq, Nat.reduceAdd, Nat.reduceEqDiff, Rd.go_next, hset]
  · have hi := lt_of_some hx
    have g := he.get hx
    simp only [Entry.enc] at g
    simp only [L13_4, hP1, bxS, c1, c2, c3, vv, reduceCtorEq, Nat.reduceAdd, Nat.reduceEqDiff, (show (i : Int) < (s.wait.length : Int) by omega), g, h6, w64_succ (show i < 4611686018427387904 by omega)]
    by_cases h : x.exp ≤ t
    · simp only [h, vv, reduceCtorEq, Nat.reduceAdd, Nat.reduceEqDiff, Rd.go_done]
    · simp only [h, vv, reduceCtorEq, Nat.reduceAdd, Nat.reduceEqDiff, Rd.go_next]
  · simp only [L13_4, hP1, bxS, c1, c2, c3, vv, reduceCtorEq, Nat.reduceAdd, Nat.reduceEqDiff, Int.lt_irrefl]
/-- All of a step behind the arrivals. -/
theorem p3 (l : List Arr) (hl : l.length ≤ 64) {rate : Int} (hr : 1 ≤ rate ∧ rate ≤ 1000) {t : Int} (ht : 0 ≤ t ∧ t ≤ 1099520016384) (s : QS) (hs : QMid l s) (v : Nat) (es : List (List Tree)) (he : Holds s.wait es) (p6 : List AV × Heap) (h6 : vI p6 0 = t) :
    ∃ v' es', Holds (begP rate t (preP t (expQ t s))).wait es' ∧ Ev fun n => ∀ ag27 z, J13_24 n ag27 z p6 ([.t (.bool false)], hP1 rate s v es) = z ([], hP rate (begP rate t (preP t (expQ t s))) v' es') := by
  have hwl := hs.wl
  obtain ⟨es1, q1, q2⟩ := x1 (rate := rate) s v es he (by omega) p6 ([.t (.bool false)], hP1 rate s v es) h6 rfl
  obtain ⟨v', es', q3, q4⟩ := p4 l hl hr ht (expQ t s) (hs.exp t) v es1 q1 p6 h6
  refine ⟨v', es', q3, (q2.and q4).mono fun n h ag27 z => ?_⟩
  obtain ⟨h1, h2⟩ := h
  have h1' := h1 fun p32 => J13_23 n z p6 p32
  have h2' := h2 z
  simp only [hP1, bxS, expQ] at h1' h2'
  simp only [J13_24, hP1, bxS, vv, reduceCtorEq, Nat.reduceAdd, Nat.reduceEqDiff]
  exact h1'.trans h2'
theorem take_mid {l : List Arr} (hg : GoodA l) {s : QS} (hs : QMid l s) (k : Nat) (hk : k ≤ s.co.length) : QMid l { s with wait := s.wait ++ (s.co.take k).map Arr.e, co := s.co.drop k } := by
  refine ⟨drop_suffix hs.co (List.drop_suffix _ _), hs.out, ?_, fun x hx => ?_, hs.nv⟩
  · have := hs.wl
    simp only [List.length_append, List.length_map, List.length_take, List.length_drop]
    omega
  · rw [List.mem_append, List.mem_map] at hx
    rcases hx with hx | ⟨a, ha, rfl⟩
    · exact hs.wv x hx
    · have := List.mem_of_mem_take ha
      rw [hs.co] at this
      exact (hg.val a (List.mem_of_mem_drop this)).2
/-- Arrivals, one by one: what is ahead is known. -/
theorem p2 (l : List Arr) (hg : GoodA l) {rate : Int} (hr : 1 ≤ rate ∧ rate ≤ 1000) {t : Int} (ht : 0 ≤ t ∧ t ≤ 1099520016384) (p6 : List AV × Heap) (h6 : vI p6 0 = t) :
    ∀ (k : Nat) (s : QS), (s.co.takeWhile fun a => decide (a.at_ = t)).length = k → QMid l s → ∀ (v : Nat) (es : List (List Tree)), Holds s.wait es →
    ∃ v' es', Holds (begP rate t (preP t (expQ t (takeP t s)))).wait es' ∧ Ev fun n => ∀ z m, k < m → loopIter (fun p again => L13_25 n z p6 p again) m ([], hP1 rate s v es) = z ([], hP rate (begP rate t (preP t (expQ t (takeP t s)))) v' es')
  | 0, s, hk, hs, v, es, he => by
    have htw : (s.co.takeWhile fun a => decide (a.at_ = t)) = [] := List.eq_nil_of_length_eq_zero hk
    have hco : s.co.dropWhile (fun a => decide (a.at_ = t)) = s.co := by rw [dw_drop, hk]; rfl
    have htp : takeP t s = s := by unfold takeP; rw [htw, hco]; simp
    rw [htp]
    obtain ⟨v', es', q1, q2⟩ := p3 l hg.len hr ht s hs v es he p6 h6
    refine ⟨v', es', q1, q2.mono fun n h z m hm => ?_⟩
    obtain ⟨m, rfl⟩ : ∃ q, m = q + 1 := ⟨m - 1, by omega⟩
    show L13_25 n z p6 _ (loopIter _ m) = _
    have h' := h (loopIter (fun p again => L13_25 n z p6 p again) m) z
    simp only [hP1, bxS] at h'
    cases hc : s.co with
    | nil =>
      simp only [hc, List.map_nil] at h'
      simp only [L13_25, hP1, bxS, hc, vv, reduceCtorEq, Nat.reduceAdd, Nat.reduceEqDiff, List.map_nil, Int.natCast_zero, Int.lt_irrefl]
      exact h'
    | cons a r =>
      have hat : ¬ a.at_ = t := by
        intro h
        rw [hc, List.takeWhile_cons] at htw
        simp [h] at htw
      have hbe : (a.at_ == t) = false := by simpa using hat
      simp only [hc, List.map_cons, Arr.enc] at h'
      simp only [L13_25, hP1, bxS, hc, vv, reduceCtorEq, Nat.reduceAdd, Nat.reduceEqDiff, List.map_cons, List.getElem?_cons_zero, Arr.enc, (show (0 : Int) < ((r.length + 1 : Nat) : Int) by omega), h6, hbe]
      exact h'
  | k + 1, s, hk, hs, v, es, he => by
    cases hc : s.co with
    | nil => rw [hc] at hk; simp at hk
    | cons a r =>
      have hat : a.at_ = t := by
        rw [hc, List.takeWhile_cons] at hk
        by_cases h : a.at_ = t
        · exact h
        · simp [h] at hk
      have hk2 : (r.takeWhile fun a => decide (a.at_ = t)).length = k := by
        rw [hc, List.takeWhile_cons] at hk
        simp [hat] at hk
        exact hk
      have hm := take_mid hg hs 1 (by rw [hc]; simp)
      rw [hc] at hm
      simp only [List.take_succ_cons, List.take_zero, List.drop_succ_cons, List.drop_zero, List.map_cons, List.map_nil] at hm
      have hwl := hs.wl
      have hlen := hg.len
      obtain ⟨v', es', q1, q2⟩ := p2 l hg hr ht p6 h6 k { s with wait := s.wait ++ [a.e], co := r } hk2 hm (v + 1) ((s.wait ++ [a.e]).map Entry.enc) (Holds.self _)
      have htp : takeP t { s with wait := s.wait ++ [a.e], co := r } = takeP t s := by
        unfold takeP
        simp only [hc, List.takeWhile_cons, List.dropWhile_cons, hat, decide_true, if_true, List.map_cons, List.append_assoc, List.cons_append, List.nil_append]
      rw [htp] at q1 q2
      refine ⟨v', es', q1, q2.mono fun n h z m hm => ?_⟩
      obtain ⟨m, rfl⟩ : ∃ q, m = q + 1 := ⟨m - 1, by omega⟩
      show L13_25 n z p6 _ (loopIter _ m) = _
      refine Eq.trans ?_ (h z m (by omega))
      have hbe : (a.at_ == t) = true := by simpa using hat
      have e1 : List.take r.length (List.map Arr.enc r) = List.map Arr.enc r := List.take_of_length_le (by simp)
      have htk := he.take
      have hhl := he.len
      simp only [L13_25, J13_24, hP1, bxS, hc, vv, reduceCtorEq, Nat.reduceAdd, Nat.reduceEqDiff, List.map_cons, List.getElem?_cons_zero, Arr.enc, (show (0 : Int) < ((r.length + 1 : Nat) : Int) by omega), h6, hbe, hhl, (show s.wait.length + 1 ≤ 1073741824 by omega), (show (0 : Int) ≤ 1 by omega), (show (1 : Int) ≤ ((r.length + 1 : Nat) : Int) by omega), List.take_succ_cons, List.drop_succ_cons, e1, htk, List.map_append, List.map_nil, List.length_append, Entry.enc]
end Ab

set_option linter.unusedVariables false
set_option linter.unusedSimpArgs false
set_option maxHeartbeats 1000000
namespace Ab
open Go


/-- All entries that are still to be sent. -/
def allQ (s : QS) : List Entry := s.wait ++ ((if s.busy = true then [s.now] else []) ++ s.co.map Arr.e)
structure SysQ (l : List Arr) (s : QS) : Prop where
  dis : (allQ s).Pairwise fun a b => a.ticket ≠ b.ticket
  mem : ∀ x ∈ allQ s, ∃ a ∈ l, a.e = x
  srt : s.wait.Pairwise fun a b => ahead a b = true
structure Sim (s p : QS) : Prop where
  co : p.co = s.co
  now : p.now = s.now
  fin : p.fin = s.fin
  busy : p.busy = s.busy
  out : p.out = s.out
  wait : p.wait.Perm s.wait
theorem Sim.refl (s : QS) : Sim s s := ⟨rfl, rfl, rfl, rfl, rfl, List.Perm.refl _⟩
theorem Sim.mid {l : List Arr} {s p : QS} (h : Sim s p) (hs : QMid l s) : QMid l p := by
  refine ⟨?_, by rw [h.out]; exact hs.out, ?_, fun x hx => hs.wv x (h.wait.mem_iff.1 hx), fun hb => ?_⟩
  · rw [h.co]; exact hs.co
  · rw [h.wait.length_eq, h.busy, h.co]; exact hs.wl
  · rw [h.now]; exact hs.nv (by rw [← h.busy]; exact hb)
theorem insQ_perm (x : Entry) (w : List Entry) : (insQ x w).Perm (x :: w) := by
  rw [insQ_tw]
  refine List.perm_middle.trans ?_
  rw [List.takeWhile_append_dropWhile]
theorem insQ_srt {x : Entry} {w : List Entry} (h : w.Pairwise fun a b => ahead a b = true) (hd : ∀ y ∈ w, y.ticket ≠ x.ticket) : (insQ x w).Pairwise fun a b => ahead a b = true := by
  unfold insQ
  refine insB_pairwise h (fun y hy hn => ?_) (fun y hy hn => ?_) (fun a ha b hb hab hn => ?_)
  · have hna : ahead y x = false := by simpa using hn
    rcases ahead_tri (hd y hy) with h | h
    · rw [hna] at h; cases h
    · exact h
  · simpa using hn
  · have hna : ahead a x = false := by simpa using hn
    cases hbx : ahead b x with
    | false => rfl
    | true => rw [ahead_tr hab hbx] at hna; cases hna
theorem insF_perm : ∀ (c : List Arr) (w : List Entry), (c.foldl (fun w a => insQ a.e w) w).Perm (w ++ c.map Arr.e)
  | [], w => by simp
  | a :: c, w => by
    rw [List.foldl_cons]
    refine (insF_perm c (insQ a.e w)).trans ?_
    rw [List.map_cons]
    refine ((insQ_perm a.e w).append_right _).trans ?_
    simpa using (List.perm_middle (a := a.e) (l₁ := w) (l₂ := c.map Arr.e)).symm
theorem insF_srt : ∀ (c : List Arr) (w : List Entry), (w.Pairwise fun a b => ahead a b = true) → ((w ++ c.map Arr.e).Pairwise fun a b => a.ticket ≠ b.ticket) → (c.foldl (fun w a => insQ a.e w) w).Pairwise fun a b => ahead a b = true
  | [], w, h, _ => h
  | a :: c, w, h, hd => by
    rw [List.foldl_cons]
    have hd' := List.pairwise_append.1 hd
    refine insF_srt c (insQ a.e w) (insQ_srt h fun y hy => hd'.2.2 y hy a.e (by simp)) ?_
    refine ((((insQ_perm a.e w).append_right (c.map Arr.e)).trans ?_).pairwise_iff fun h => Ne.symm h).2 hd
    simpa using (List.perm_middle (a := a.e) (l₁ := w) (l₂ := c.map Arr.e)).symm
theorem SysQ.of {l : List Arr} {s s' : QS} (h : SysQ l s) (m m' : List Entry) (h1 : (allQ s').Perm m) (h2 : m.Sublist m') (h3 : m'.Perm (allQ s)) (hs : s'.wait.Pairwise fun a b => ahead a b = true) : SysQ l s' :=
  ⟨(h1.pairwise_iff fun h => Ne.symm h).2 (((h3.pairwise_iff fun h => Ne.symm h).2 h.dis).sublist h2), fun x hx => h.mem x (h3.mem_iff.1 (h2.subset (h1.mem_iff.1 hx))), hs⟩
theorem SysQ.end {l : List Arr} {s : QS} (h : SysQ l s) (t : Int) : SysQ l (endQ l t s) := by
  unfold endQ
  split
  · rename_i hb
    refine h.of _ (allQ s) (List.Perm.refl _) ?_ (List.Perm.refl _) h.srt
    simp only [allQ, Bool.false_eq_true, if_false, hb.1, if_true, List.nil_append]
    exact List.Sublist.append (List.Sublist.refl _) (List.sublist_append_right _ _)
  · exact h
theorem SysQ.take {l : List Arr} {s : QS} (h : SysQ l s) (t : Int) : SysQ l (takeQ t s) := by
  have hsp : s.co.map Arr.e = (s.co.takeWhile fun a => decide (a.at_ = t)).map Arr.e ++ (s.co.dropWhile fun a => decide (a.at_ = t)).map Arr.e := by
    rw [← List.map_append, List.takeWhile_append_dropWhile]
  refine h.of (allQ s) (allQ s) ?_ (List.Sublist.refl _) (List.Perm.refl _) ?_
  · simp only [allQ, takeQ]
    rw [hsp]
    refine ((insF_perm _ _).append_right _).trans ?_
    rw [List.append_assoc]
    refine List.Perm.append_left _ ?_
    rw [← List.append_assoc, ← List.append_assoc]
    exact List.Perm.append_right _ List.perm_append_comm
  · refine insF_srt _ _ h.srt ?_
    have hd := h.dis
    unfold allQ at hd
    rw [hsp] at hd
    refine hd.sublist (List.Sublist.append (List.Sublist.refl _) ?_)
    exact (List.sublist_append_left _ _).trans (List.sublist_append_right _ _)
theorem SysQ.exp {l : List Arr} {s : QS} (h : SysQ l s) (t : Int) : SysQ l (expQ t s) :=
  h.of _ (allQ s) (List.Perm.refl _) (List.Sublist.append List.filter_sublist (List.Sublist.refl _)) (List.Perm.refl _) (h.srt.sublist List.filter_sublist)
theorem SysQ.now_ne {l : List Arr} {s : QS} (h : SysQ l s) (hb : s.busy = true) : ∀ y ∈ s.wait, y.ticket ≠ s.now.ticket := by
  have := h.dis
  unfold allQ at this
  rw [hb, if_pos rfl] at this
  exact fun y hy => (List.pairwise_append.1 this).2.2 y hy s.now (by simp)
theorem SysQ.pre {l : List Arr} {s : QS} (h : SysQ l s) (t : Int) : SysQ l (preQ t s) := by
  unfold preQ
  split
  · rename_i x r hw
    split
    · rename_i hb
      have hne := h.now_ne hb.1
      refine h.of ((s.now :: s.wait).filter (fun x => decide (x.exp > t)) ++ s.co.map Arr.e) ((s.now :: s.wait) ++ s.co.map Arr.e) ?_ (List.Sublist.append List.filter_sublist (List.Sublist.refl _)) ?_ ((insQ_srt h.srt hne).sublist List.filter_sublist)
      · simp only [allQ, Bool.false_eq_true, if_false, List.nil_append]
        exact ((insQ_perm s.now s.wait).filter _).append_right _
      · simp only [allQ, hb.1, if_true]
        simpa using (List.perm_middle (a := s.now) (l₁ := s.wait) (l₂ := s.co.map Arr.e)).symm
    · exact h
  · exact h
theorem SysQ.beg {l : List Arr} {s : QS} (h : SysQ l s) (rate t : Int) : SysQ l (begQ rate t s) := by
  unfold begQ
  split
  · exact h
  · rename_i hb
    split
    · exact h
    · rename_i x r hw
      have hsr := h.srt
      rw [hw] at hsr
      refine h.of (x :: (r ++ s.co.map Arr.e)) (allQ s) ?_ (by simp [allQ, hb, hw]) (List.Perm.refl _) (List.pairwise_cons.1 hsr).2
      simp only [allQ, if_true]
      simp
theorem SysQ.step {l : List Arr} {s : QS} (h : SysQ l s) (rate t : Int) : SysQ l (stepQ l rate t s) := ((((h.end t).take t).exp t).pre t).beg rate t
theorem SysQ.start {l : List Arr} (hg : GoodA l) : SysQ l (startQ l) := by
  refine ⟨?_, fun x hx => ?_, by simp [startQ]⟩
  · simp only [allQ, startQ, Bool.false_eq_true, if_false, List.nil_append]
    rw [List.pairwise_map]
    exact hg.dis
  · simp only [allQ, startQ, Bool.false_eq_true, if_false, List.nil_append, List.mem_map] at hx
    exact hx

/-! ### the simulation -/
theorem Sim.end {l : List Arr} {s p : QS} (h : Sim s p) (t : Int) : Sim (endQ l t s) (endQ l t p) := by
  unfold endQ
  rw [h.busy, h.fin]
  split
  · exact ⟨h.co, h.now, rfl, rfl, by simp only [h.now, h.out], h.wait⟩
  · exact h
theorem Sim.take {s p : QS} (h : Sim s p) (t : Int) : Sim (takeQ t s) (takeP t p) := by
  refine ⟨by simp only [takeQ, takeP, h.co], h.now, h.fin, h.busy, h.out, ?_⟩
  simp only [takeQ, takeP, h.co]
  exact (h.wait.append_right _).trans (insF_perm _ _).symm
theorem Sim.exp {s p : QS} (h : Sim s p) (t : Int) : Sim (expQ t s) (expQ t p) := ⟨h.co, h.now, h.fin, h.busy, h.out, h.wait.filter _⟩
def headAny : List Entry → Entry → Bool
  | [], _ => false
  | x :: _, y => decide (Ab.pre x y)
theorem pre_any {w : List Entry} (hs : w.Pairwise fun a b => ahead a b = true) (hv : ∀ x ∈ w, ValidE x) (y : Entry) : (w.any fun x => decide (pre x y)) = headAny w y := by
  cases w with
  | nil => rfl
  | cons x r =>
    rw [List.pairwise_cons] at hs
    rw [Bool.eq_iff_iff, List.any_eq_true]
    constructor
    · rintro ⟨z, hz, hp⟩
      rcases List.mem_cons.1 hz with rfl | hz
      · exact hp
      · have h1 := hs.1 z hz
        have h2 := hv x (by simp)
        obtain ⟨p1, p2⟩ := of_decide_eq_true hp
        unfold ahead at h1
        unfold ValidE at h2
        simp only [decide_eq_true_eq] at h1
        exact decide_eq_true ⟨by omega, p2⟩
    · intro hp
      exact ⟨x, by simp, hp⟩
theorem Sim.pre {s p : QS} (h : Sim s p) (hs : s.wait.Pairwise fun a b => ahead a b = true) (hv : ∀ x ∈ s.wait, ValidE x) (t : Int) : Sim (preQ t s) (preP t p) := by
  have hany : (p.wait.any fun x => decide (Ab.pre x p.now)) = headAny s.wait s.now := by
    rw [← pre_any hs hv s.now, h.now, Bool.eq_iff_iff, List.any_eq_true, List.any_eq_true]
    constructor
    · rintro ⟨z, hz, hp⟩; exact ⟨z, h.wait.mem_iff.1 hz, hp⟩
    · rintro ⟨z, hz, hp⟩; exact ⟨z, h.wait.mem_iff.2 hz, hp⟩
  unfold preQ preP
  rw [hany]
  cases hw : s.wait with
  | nil =>
    simp only [headAny, Bool.false_eq_true, and_false, if_false]
    exact h
  | cons x r =>
    simp only [headAny, decide_eq_true_eq, h.busy]
    split
    · refine ⟨h.co, h.now, h.fin, rfl, h.out, ?_⟩
      simp only
      refine List.Perm.filter _ ?_
      rw [h.now]
      refine List.Perm.trans ?_ (insQ_perm s.now (x :: r)).symm
      rw [← hw]
      exact List.perm_append_singleton _ _ |>.trans (h.wait.cons _)
    · exact h
theorem minE_least : ∀ (w : List Entry) (m : Entry), (∀ z, z = m ∨ z ∈ w → ahead z (w.foldl (fun m y => if ahead y m = true then y else m) m) = false)
  | [], m => fun z hz => by
    rcases hz with rfl | hz
    · exact ahead_irr _
    · simp at hz
  | y :: w, m => fun z hz => by
    rw [List.foldl_cons]
    by_cases hy : ahead y m = true
    · rw [if_pos hy]
      have ih := minE_least w y
      rcases hz with rfl | hz
      · cases hc : ahead z (w.foldl (fun m y => if ahead y m = true then y else m) y) with
        | false => rfl
        | true =>
          have := ih y (.inl rfl)
          rw [ahead_tr hy hc] at this
          cases this
      · rcases List.mem_cons.1 hz with rfl | hz
        · exact ih _ (.inl rfl)
        · exact ih _ (.inr hz)
    · rw [if_neg hy]
      have ih := minE_least w m
      rcases hz with rfl | hz
      · exact ih _ (.inl rfl)
      · rcases List.mem_cons.1 hz with rfl | hz
        · cases hc : ahead z (w.foldl (fun m y => if ahead y m = true then y else m) m) with
          | false => rfl
          | true =>
            rcases minE_mem w m with he | he
            · rw [he] at hc; exact absurd hc hy
            · have h1 := ih m (.inl rfl)
              by_cases ht : m.ticket = z.ticket
              · -- the same ticket: compare directly
                exfalso
                have h2 := ih _ (.inr he)
                generalize w.foldl (fun m y => if ahead y m = true then y else m) m = q at *
                have hy' : ahead z m = false := by simpa using hy
                unfold ahead at hc h1 hy'
                simp only [decide_eq_true_eq, decide_eq_false_iff_not] at hc h1 hy'
                omega
              · exfalso
                generalize w.foldl (fun m y => if ahead y m = true then y else m) m = q at *
                have hy' : ahead z m = false := by simpa using hy
                unfold ahead at hc h1 hy'
                simp only [decide_eq_true_eq, decide_eq_false_iff_not] at hc h1 hy'
                omega
        · exact ih _ (.inr hz)
theorem minE_head {w : List Entry} {x : Entry} {r : List Entry} (hp : w.Perm (x :: r)) (hs : (x :: r).Pairwise fun a b => ahead a b = true) : minE w = x := by
  have hne : w ≠ [] := fun h => by rw [h] at hp; have := hp.length_eq; simp at this
  have hm : minE w ∈ x :: r := hp.mem_iff.1 (minE_in hne)
  rcases List.mem_cons.1 hm with h | h
  · exact h
  · have h1 := (List.pairwise_cons.1 hs).1 _ h
    have hx : x ∈ w := hp.mem_iff.2 (by simp)
    cases w with
    | nil => exact absurd rfl hne
    | cons a w =>
      have h2 := minE_least w a x (by rcases List.mem_cons.1 hx with h | h; exact .inl h; exact .inr h)
      have h1' : ahead x (w.foldl (fun m y => if ahead y m = true then y else m) a) = true := h1
      rw [h2] at h1'
      cases h1'
theorem Sim.beg {s p : QS} (h : Sim s p) (hs : s.wait.Pairwise fun a b => ahead a b = true) (hd : s.wait.Pairwise fun a b => a.ticket ≠ b.ticket) (rate t : Int) : Sim (begQ rate t s) (begP rate t p) := by
  cases hb : s.busy with
  | true =>
    have e1 : begQ rate t s = s := by unfold begQ; rw [if_pos hb]
    have e2 : begP rate t p = p := by unfold begP; rw [if_pos (.inl (by rw [h.busy, hb]))]
    rw [e1, e2]
    exact h
  | false =>
    have hpb : p.busy = false := by rw [h.busy, hb]
    cases hw : s.wait with
    | nil =>
      have hpw : p.wait = [] := by have := h.wait.length_eq; rw [hw] at this; exact List.eq_nil_of_length_eq_zero this
      have e1 : begQ rate t s = s := by unfold begQ; rw [if_neg (by simp [hb]), hw]
      have e2 : begP rate t p = p := by unfold begP; rw [if_pos (.inr hpw)]
      rw [e1, e2]
      exact h
    | cons x r =>
      have hp := h.wait
      rw [hw] at hp hs hd
      have hne : p.wait ≠ [] := fun h => by rw [h] at hp; have := hp.length_eq; simp at this
      have hm := minE_head hp hs
      have e1 : begQ rate t s = { s with now := x, wait := r, busy := true, fin := t + durQ rate x } := by unfold begQ; rw [if_neg (by simp [hb]), hw]
      have e2 : begP rate t p = { p with now := x, wait := removeQ p.wait x.ticket, busy := true, fin := t + durQ rate x } := by unfold begP; rw [if_neg (by simp [hpb, hne]), hm]
      rw [e1, e2]
      refine ⟨h.co, rfl, rfl, rfl, h.out, ?_⟩
      simp only [removeQ]
      refine (hp.filter _).trans ?_
      rw [List.filter_cons_of_neg (by simp), List.filter_eq_self.2]
      intro y hy
      have := (List.pairwise_cons.1 hd).1 y hy
      simpa using fun h => this h.symm
theorem SysQ.wd {l : List Arr} {s : QS} (h : SysQ l s) : s.wait.Pairwise fun a b => a.ticket ≠ b.ticket := h.dis.sublist (List.sublist_append_left _ _)
theorem Sim.step {l : List Arr} (hg : GoodA l) {s p : QS} (h : Sim s p) (hs : SysQ l s) (hm : QMid l s) (rate t : Int) : Sim (stepQ l rate t s) (stepP l rate t p) := by
  unfold stepQ stepP
  have s2 := ((hs.end t).take t).exp t
  have m2 := ((hm.end t).take hg t).exp t
  have s3 := s2.pre t
  exact ((((h.end t).take t).exp t).pre s2.srt m2.wv t).beg s3.srt s3.wd rate t
end Ab

set_option linter.unusedVariables false
set_option linter.unusedSimpArgs false
set_option maxHeartbeats 1000000
namespace Ab
open Go


theorem while_rel {S R σ Q : Type} {B : Nat → S → (S → Option R) → Option R} (Rel : σ → S → Prop) (step : σ → Rd σ Q) (out : Q → R) (Inv : σ → Prop) (μ : σ → Nat)
    (hstep : ∀ s c, Inv s → Rel s c → (∃ s' c', step s = .next s' ∧ Rel s' c' ∧ Ev fun n => ∀ again, B n c again = again c') ∨ (∃ q, step s = .done q ∧ Ev fun n => ∀ again, B n c again = some (out q)))
    (hinv : ∀ s s', Inv s → step s = .next s' → Inv s' ∧ μ s' < μ s) (res : σ → Q) (hres : ∀ s, Inv s → res s = (step s).fin res) :
    ∀ (k : Nat) (s : σ) (c : S), μ s ≤ k → Inv s → Rel s c → Ev fun n => ∀ m, k < m → loopIter (B n) m c = some (out (res s))
  | k, s, c, hk, hI, hR => by
    rcases hstep s c hI hR with ⟨s', c', hs, hR', he⟩ | ⟨q, hs, he⟩
    · obtain ⟨h1, h2⟩ := hinv s s' hI hs
      obtain ⟨k, rfl⟩ : ∃ q, k = q + 1 := ⟨k - 1, by omega⟩
      have ih := while_rel Rel step out Inv μ hstep hinv res hres k s' c' (by omega) h1 hR'
      refine (he.and ih).mono fun n h m hm => ?_
      obtain ⟨m, rfl⟩ : ∃ q, m = q + 1 := ⟨m - 1, by omega⟩
      show B n _ _ = _
      rw [h.1, hres s hI, hs]
      exact h.2 m (by omega)
    · refine he.mono fun n h m hm => ?_
      obtain ⟨m, rfl⟩ : ∃ q, m = q + 1 := ⟨m - 1, by omega⟩
      show B n _ _ = _
      rw [h, hres s hI, hs]
      rfl
theorem markQ_set {l : List Arr} (hd : l.Pairwise fun a b => a.e.ticket ≠ b.e.ticket) {o : List Int} (ho : o.length = l.length) {i : Nat} {a : Arr} (ha : l[i]? = some a) (t : Int) : markQ l a.e.ticket t o = o.set i t := by
  apply List.ext_getElem?
  intro j
  have hi := lt_of_some ha
  by_cases hj : j < l.length
  · have hl : l[j]? = some l[j] := List.getElem?_eq_getElem hj
    have hv : o[j]? = some o[j] := List.getElem?_eq_getElem (by omega)
    rw [markQ_get ho hl hv, List.getElem?_set]
    by_cases hij : i = j
    · subst hij
      rw [hl] at ha
      have hae := Option.some.inj ha
      rw [if_pos rfl, hae, if_pos rfl, if_pos (by omega)]
    · rw [if_neg hij, hv, if_neg]
      intro h
      rw [List.getElem?_eq_getElem hi] at ha
      rw [← Option.some.inj ha] at h
      rcases Nat.lt_or_gt_of_ne hij with h2 | h2
      · exact List.pairwise_iff_getElem.1 hd i j hi hj h2 h.symm
      · exact List.pairwise_iff_getElem.1 hd j i hj hi h2 h
  · have h1 : (markQ l a.e.ticket t o)[j]? = none := List.getElem?_eq_none (by rw [markQ_len ho]; omega)
    have h2 : (o.set i t)[j]? = none := List.getElem?_eq_none (by simp; omega)
    rw [h1, h2]
theorem p1 (l : List Arr) (hg : GoodA l) {rate : Int} (hr : 1 ≤ rate ∧ rate ≤ 1000) {t : Int} (ht : 0 ≤ t ∧ t ≤ 1099520016384) (s : QS) (hs : QMid l s) (hnow : s.busy = true → ∃ a ∈ l, a.e = s.now) (v : Nat) (es : List (List Tree)) (he : Holds s.wait es) (p6 : List AV × Heap) (h6 : vI p6 0 = t) (d : Bool) (hd : d = decide (s.busy = true ∧ t = s.fin)) :
    ∃ v' es', Holds (stepP l rate t s).wait es' ∧ Ev fun n => ∀ z, J13_28 n z p6 (l.map Arr.enc) ([.t (.bool d)], hP rate s v es) = z ([], hP rate (stepP l rate t s) v' es') := by
  have hlen := hg.len
  cases d with
  | false =>
    have hend : endQ l t s = s := by unfold endQ; rw [if_neg (of_decide_eq_false hd.symm)]
    obtain ⟨v', es', q1, q2⟩ := p2 l hg hr ht p6 h6 _ s rfl hs v es he
    unfold stepP
    rw [hend]
    refine ⟨v', es', q1, (q2.and (Ev.ge ((s.co.takeWhile fun a => decide (a.at_ = t)).length + 1))).mono fun n h z => ?_⟩
    have h1 := h.1 (fun p24 => J13_26 n z p24) n (by omega)
    simp only [hP1, bxS] at h1
    simp only [J13_28, J13_27, hP, bxS, vv, reduceCtorEq, Nat.reduceAdd, Nat.reduceEqDiff]
    refine h1.trans ?_
    simp only [J13_26, hP, bxS, vv, reduceCtorEq, Nat.reduceAdd, Nat.reduceEqDiff]
  | true =>
    have hbt := of_decide_eq_true hd.symm
    obtain ⟨a, ha, hae⟩ := hnow hbt.1
    obtain ⟨i, hi⟩ := List.mem_iff_getElem?.1 ha
    have hil := lt_of_some hi
    have hend : endQ l t s = { s with busy := false, out := s.out.set i t } := by
      unfold endQ
      rw [if_pos hbt, ← hae, markQ_set hg.dis hs.out hi]
    have hmid := hs.end t
    rw [hend] at hmid
    obtain ⟨v', es', q1, q2⟩ := p2 l hg hr ht p6 h6 _ { s with busy := false, out := s.out.set i t } rfl hmid v es he
    unfold stepP
    rw [hend]
    -- the place of the entry
    have hidx : idx (fun y : Arr => decide (y.e.ticket = s.now.ticket)) l = (i : Int) := by
      rcases idx_cases (fun y : Arr => decide (y.e.ticket = s.now.ticket)) l with ⟨_, hn⟩ | ⟨j, x, hj, hx, hp, hb⟩
      · have := hn a ha
        rw [hae] at this
        simp at this
      · rw [hj]
        have hjl := lt_of_some hx
        have : j = i := by
          rcases Nat.lt_trichotomy j i with h | h | h
          · rw [List.getElem?_eq_getElem hjl] at hx
            rw [List.getElem?_eq_getElem hil] at hi
            have := List.pairwise_iff_getElem.1 hg.dis j i hjl hil h
            rw [Option.some.inj hx, Option.some.inj hi, hae] at this
            exact absurd (of_decide_eq_true hp) this
          · exact h
          · have := hb i a h hi
            rw [hae] at this
            simp at this
        rw [this]
    have k1 := loop_overZ (R := List Tree) (Z := List AV × Heap → Option (List Tree)) (B := fun n z p again => L13_2 n (l.map Arr.enc) ([.t (.bool true)], hP rate s v es) z p again) (s := (([.t (tI 0)], hP rate { s with busy := false } v es ++ [.box []]) : List AV × Heap)) l
      (fun i (_ : Unit) => (([.t (tI i)], hP rate { s with busy := false } v es ++ [.box []]) : List AV × Heap))
      (fun i _ x => if decide (x.e.ticket = s.now.ticket) = true then .done (i : Int) else .next ()) (fun _ => -1) (fun z (q : Int) => z ([.t (tI q)], hP rate { s with busy := false } v es ++ [.box []])) (fun _ _ => True) () rfl trivial (find_run0 _ l)
      (fun j u x hx hI => Ev.of fun n z again => ?_) (fun _ _ _ _ _ _ _ => trivial) (fun u hI => Ev.of fun n z again => ?_)
    · rw [hidx] at k1
      have hol := hs.out
      refine ⟨v', es', q1, (k1.and (q2.and (Ev.ge ((s.co.takeWhile fun a => decide (a.at_ = t)).length + 1)))).mono fun n h z => ?_⟩
      obtain ⟨h1, h2, h3⟩ := h
      have h2' := h2 (fun p24 => J13_26 n z p24) n (by simp only; omega)
      have hv : s.out[i]? = some s.out[i] := List.getElem?_eq_getElem (by omega)
      have hset : List.set (s.out.map encI) i [tI t] = (s.out.set i t).map encI := by rw [show ([tI t] : List Tree) = encI t from rfl, ← List.map_set]
      simp only [hP1, bxS, List.length_set] at h2'
      simp only [hP, bxS, List.cons_append, List.nil_append] at h1
      simp only [J13_28, J13_27, J13_3, hP, bxS, vv, reduceCtorEq, Nat.reduceAdd, Nat.reduceEqDiff, h1, (show (i : Int) < (s.out.length : Int) by omega), hv, encI, Nat.le_refl, List.drop_succ_cons, List.drop_nil, List.cons_append, List.nil_append, h6]
      rw [hset]
      refine h2'.trans ?_
      simp only [J13_26, hP, bxS, vv, reduceCtorEq, Nat.reduceAdd, Nat.reduceEqDiff, List.length_set]
    · have hj := lt_of_some hx
      simp only [L13_2, hP, bxS, vv, reduceCtorEq, Nat.reduceAdd, Nat.reduceEqDiff, List.cons_append, List.nil_append, hx, Arr.enc, (show (j : Int) < (l.length : Int) by omega), w64_succ (show j < 4611686018427387904 by omega), beq_iff_eq]
      by_cases h : x.e.ticket = s.now.ticket
      · simp only [h, vv, reduceCtorEq, Nat.reduceAdd, Nat.reduceEqDiff, Rd.go_done]
      · simp only [h, vv, reduceCtorEq, Nat.reduceAdd, Nat.reduceEqDiff, Rd.go_next]
    · simp only [L13_2, hP, bxS, vv, reduceCtorEq, Nat.reduceAdd, Nat.reduceEqDiff, List.cons_append, List.nil_append, Int.lt_irrefl]
def RelP (rate : Int) (s : QS) (c : List AV × Heap) : Prop := ∃ p v es, Sim s p ∧ Holds p.wait es ∧ c = ([], hP rate p v es)
theorem p0 (l : List Arr) (hg : GoodA l) {rate : Int} (hr : 1 ≤ rate ∧ rate ≤ 1000) (s : QS) (c : List AV × Heap) (hI : QInv l s ∧ SysQ l s) (hR : RelP rate s c) :
    (∃ s' c', roundQ l rate s = .next s' ∧ RelP rate s' c' ∧ Ev fun n => ∀ again, L13_30 n (l.map Arr.enc) c again = again c') ∨ (∃ q, roundQ l rate s = .done q ∧ Ev fun n => ∀ again, L13_30 n (l.map Arr.enc) c again = some [.sl 1 (q.map encI), tI 0]) := by
  obtain ⟨hq, hsys⟩ := hI
  obtain ⟨p, v, es, hsim, hh, rfl⟩ := hR
  have hmid := hsim.mid hq.mid
  have hol := hmid.out
  have hlen := hg.len
  cases ht : timeQ s with
  | none =>
    right
    have : s.busy = false ∧ s.co = [] := by
      unfold timeQ at ht
      split at ht <;> first | cases ht | skip
      rename_i hb hc
      exact ⟨hb, hc⟩
    obtain ⟨hb, hc⟩ := this
    refine ⟨s.out, by unfold roundQ; rw [ht], Ev.of fun n again => ?_⟩
    have e1 : List.take p.out.length (p.out.map encI) = p.out.map encI := List.take_of_length_le (by simp)
    have hpb : p.busy = false := by rw [hsim.busy, hb]
    have hpc : p.co = [] := by rw [hsim.co, hc]
    simp only [L13_30, J13_29, J13_1, hP, bxS, vv, reduceCtorEq, Nat.reduceAdd, Nat.reduceEqDiff, hpb, hpc, List.map_nil, Int.natCast_zero, Int.lt_irrefl, e1]
    rw [hsim.out]
  | some t =>
    left
    have hm := hq.mu hg.len
    have htb : 0 ≤ t ∧ t ≤ 1099520016384 := by
      have h := timeQ_bd hg hq ht
      refine ⟨h.1, ?_⟩
      rcases h.2 with h | ⟨hb, h⟩
      · omega
      · have := hq.fin hb
        omega
    have hnow : p.busy = true → ∃ a ∈ l, a.e = p.now := fun hb => by
      have hb' : s.busy = true := by rw [← hsim.busy]; exact hb
      rw [hsim.now]
      exact hsys.mem s.now (by simp [allQ, hb'])
    obtain ⟨v', es', q1, q2⟩ := p1 l hg hr htb p hmid hnow v es hh ([.t (tI t), .t (.bool true)], hP rate p v es) rfl (decide (p.busy = true ∧ t = p.fin)) rfl
    refine ⟨stepQ l rate t s, ([], hP rate (stepP l rate t p) v' es'), by unfold roundQ; rw [ht], ⟨_, v', es', hsim.step hg hsys hq.mid rate t, q1, rfl⟩, q2.mono fun n h again => ?_⟩
    have h' := h again
    have htp : timeQ p = some t := by
      rw [← ht]
      unfold timeQ
      rw [hsim.busy, hsim.co, hsim.fin]
    cases hb : p.busy with
    | true =>
      simp only [hb, true_and] at h'
      have hbe : (p.fin == t) = decide (t = p.fin) := by
        by_cases h : t = p.fin
        · simp [h]
        · have : ¬ p.fin = t := fun hh => h hh.symm
          simp [h, this]
      cases hc : p.co with
      | nil =>
        have htf : t = p.fin := by unfold timeQ at htp; rw [hb, hc] at htp; exact (Option.some.inj htp).symm
        simp only [hP, bxS, hb, hc, List.map_nil] at h'
        rw [← htf] at h' hbe
        simp only [L13_30, J13_29, J13_1, hP, bxS, vv, reduceCtorEq, Nat.reduceAdd, Nat.reduceEqDiff, hb, hc, List.map_nil, Int.natCast_zero, beq_self_eq_true, ← htf]
        simpa using h'
      | cons a r =>
        have hta : t = if a.at_ < p.fin then a.at_ else p.fin := by unfold timeQ at htp; rw [hb, hc] at htp; exact (Option.some.inj htp).symm
        have hl0 : (((r.length + 1 : Nat) : Int) == 0) = false := by simp; omega
        simp only [hP, bxS, hb, hc, List.map_cons, Arr.enc] at h'
        by_cases hf : a.at_ < p.fin
        · rw [if_pos hf] at hta
          have hle : ¬ p.fin ≤ a.at_ := by omega
          subst hta
          simp only [L13_30, J13_29, J13_1, hP, bxS, vv, reduceCtorEq, Nat.reduceAdd, Nat.reduceEqDiff, hb, hc, List.map_cons, Arr.enc, List.getElem?_cons_zero, hl0, hle, (show (0 : Int) < ((r.length + 1 : Nat) : Int) by omega), hbe]
          exact h'
        · rw [if_neg hf] at hta
          have hle : p.fin ≤ a.at_ := by omega
          subst hta
          simp only [L13_30, J13_29, J13_1, hP, bxS, vv, reduceCtorEq, Nat.reduceAdd, Nat.reduceEqDiff, hb, hc, List.map_cons, Arr.enc, List.getElem?_cons_zero, hl0, hle, hbe]
          simpa using h'
    | false =>
      simp only [hb, Bool.false_eq_true, false_and, decide_false] at h'
      cases hc : p.co with
      | nil => unfold timeQ at htp; rw [hb, hc] at htp; cases htp
      | cons a r =>
        have hta : t = a.at_ := by unfold timeQ at htp; rw [hb, hc] at htp; exact (Option.some.inj htp).symm
        simp only [hP, bxS, hb, hc, List.map_cons, Arr.enc] at h'
        subst hta
        simp only [L13_30, J13_29, J13_1, hP, bxS, vv, reduceCtorEq, Nat.reduceAdd, Nat.reduceEqDiff, hb, hc, List.map_cons, Arr.enc, List.getElem?_cons_zero, (show (0 : Int) < ((r.length + 1 : Nat) : Int) by omega)]
        exact h'
theorem s13 (l : List Arr) (rate : Int) (hl : l.length ≤ 1000000) : Runs C 13 [.sl 5 (l.map Arr.enc), tI rate] [.sl 1 ((servR l rate).1.map encI), tI (servR l rate).2] := by
  refine Runs.of (fun n => e13 n _ _) ?_
  unfold servR
  by_cases hc : checkR l rate = 0
  · have hr : 1 ≤ rate ∧ rate ≤ 1000 := by
      unfold checkR at hc
      split at hc
      · cases hc
      · omega
    have hca : checkA l = 0 := by
      unfold checkR at hc
      split at hc
      · cases hc
      · exact hc
    have hg := (checkA_zero l).1 hca
    have hlen := hg.len
    have key := while_rel (R := List Tree) (B := fun n p again => L13_30 n (l.map Arr.enc) p again) (RelP rate) (roundQ l rate) (fun q => [Tree.sl 1 (q.map encI), tI 0]) (fun s => QInv l s ∧ SysQ l s) muQ
      (fun s c hI hR => p0 l hg hr s c hI hR) (fun s s' hI hn => by
        have := round_inv hg hr hI.1 hn
        refine ⟨⟨this.1, ?_⟩, this.2⟩
        unfold roundQ at hn
        split at hn
        · cases hn
        · cases hn
          exact hI.2.step rate _) (runQ l rate) (fun s _ => runQ_eq l rate s) (muQ (startQ l)) (startQ l) ([], hP rate (startQ l) 0 []) (Nat.le_refl _) ⟨QInv.start, SysQ.start hg⟩ ⟨startQ l, 0, [], Sim.refl _, ⟨[], rfl⟩, rfl⟩
    have h36 := s36 l rate hl
    rw [hc] at h36
    refine (h36.and ((s1000037 l.length hlen).and (key.and (Ev.ge (muQ (startQ l) + 1))))).mono fun n h => ?_
    obtain ⟨h1, h2, h3, h4⟩ := h
    have h3' := h3 n (by omega)
    have hrep : List.replicate l.length [tI (-1)] = (List.replicate l.length (-1 : Int)).map encI := by rw [List.map_replicate]; rfl
    simp only [hP, bxS, startQ, zeroE, List.map_nil, List.length_nil] at h3'
    simp only [h1, vv, reduceCtorEq, Nat.reduceAdd, Nat.reduceEqDiff, bne_self_eq_false, h2, hrep, hc, ne_eq, not_true]
    exact h3'
  · have h36 := s36 l rate hl
    refine h36.mono fun n h => ?_
    have : (checkR l rate != 0) = true := by simp [hc]
    simp only [h, vv, reduceCtorEq, Nat.reduceAdd, Nat.reduceEqDiff, this]
    simp [hc]
end Ab
