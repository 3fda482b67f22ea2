/- Queue: Pop; the laws Changes and Undoes. -/
import Derived.Test.YtblkfmemhpjbgaaQuC
set_option linter.unusedVariables false
set_option linter.unusedSimpArgs false
namespace Ab
open Go


theorem s12 : Runs C 12 [] [.bool true] := Ev.add 60 (Ev.of fun n => by kernel_rfl)
theorem s24 (a b : Entry) : Runs C 24 (a.enc ++ b.enc) [.bool (decide (a.prio = 2 ∧ b.prio < 2))] := by
  refine Runs.of (fun n => e24 n _ _ _ _ _ _ _ _) (Ev.of fun n => ?_)
  by_cases h : a.prio = 2 <;> simp [h, cnd_eq]
theorem s25 (a b : Entry) : Runs C 25 (a.enc ++ b.enc) [.bool (decide (a.prio = 2 ∧ b.prio < 2))] := by
  refine Runs.of (fun n => e25 n _ _ _ _ _ _ _ _) (Ev.of fun n => ?_)
  by_cases h : a.prio = 2 <;> simp [h, cnd_eq]
def great (n : Nat) : Bool := decide (12 < n ∧ n < 63 ∨ 70 < n)
theorem s20 (l : List (List Tree)) : Runs C 20 [.sl 4 l] [.bool (great l.length)] := by
  refine Runs.of (fun n => e20 n _) (Ev.of fun n => ?_)
  unfold great
  by_cases h1 : 12 < l.length
  · by_cases h2 : l.length < 63
    · simp only [vv, reduceCtorEq, Nat.reduceAdd, Nat.reduceEqDiff, (show (12 : Int) < (l.length : Int) by omega), (show (l.length : Int) < 63 by omega), h1, h2]
    · simp only [vv, reduceCtorEq, Nat.reduceAdd, Nat.reduceEqDiff, (show (12 : Int) < (l.length : Int) by omega), (show ¬ (l.length : Int) < 63 by omega), h1, h2]
      congr 3
      simp
      omega
  · simp only [vv, reduceCtorEq, Nat.reduceAdd, Nat.reduceEqDiff, (show ¬ (12 : Int) < (l.length : Int) by omega), h1, (show ¬ (70 : Int) < (l.length : Int) by omega), (show ¬ 70 < l.length by omega)]
def zeroE : Entry := ⟨0, 0, 0, 0⟩
def popR (r : List Entry) : Entry × List Entry × Int := match r with
  | [] => (zeroE, [], 20)
  | x :: r => (x, r, 0)
def popQ (l : List Entry) (t : Int) : Entry × List Entry × Int := if checkQ l ≠ 0 then (zeroE, [], 1) else popR (freshQ l t)
def popT (q : Entry × List Entry × Int) : List Tree := q.1.enc ++ [.sl 4 (q.2.1.map Entry.enc), tI q.2.2]
theorem s23 (l : List Entry) (t : Int) (hl : l.length ≤ 1000000) : Runs C 23 [.sl 4 (l.map Entry.enc), tI t] (popT (popQ l t)) := by
  refine Runs.of (fun n => e23 n _ _) ?_
  refine ((s27 l hl).and (s42 l t hl)).mono fun n h => ?_
  obtain ⟨h1, h2⟩ := h
  unfold popQ
  by_cases c1 : checkQ l = 0
  · have e0 : (freshQ l t).length ≤ l.length := List.length_filter_le _ _
    simp only [h1, h2, c1, vv, reduceCtorEq, Nat.reduceAdd, Nat.reduceEqDiff, bne_self_eq_false, ne_eq, not_true]
    cases hf : freshQ l t with
    | nil => simp [popR, popT, zeroE, Entry.enc, cnd_eq]
    | cons x r =>
      have : (((r.length + 1 : Nat) : Int) == 0) = false := by simp; omega
      simp only [vv, reduceCtorEq, Nat.reduceAdd, Nat.reduceEqDiff, this, List.map_cons, List.getElem?_cons_zero, Entry.enc, (show (0 : Int) ≤ 1 by omega), (show (1 : Int) ≤ ((r.length + 1 : Nat) : Int) by omega)]
      have e1 : List.take r.length (List.map Entry.enc r) = List.map Entry.enc r := List.take_of_length_le (by simp)
      simp [popR, popT, Entry.enc, e1]
  · simp only [h1, vv, reduceCtorEq, Nat.reduceAdd, Nat.reduceEqDiff]
    simp [c1, cnd_eq, popT, zeroE, Entry.enc]
theorem pop_cons {R : List (List Tree)} {es : List Entry} {x : Entry} {r : List Entry} {i : Nat} (hR : List.take i R = (es.take i).map Entry.enc) (hr : es.take i = x :: r) (hi : i ≤ es.length) : i = r.length + 1 ∧ R[0]? = some x.enc ∧ List.take (i - 1) (List.drop 1 R) = r.map Entry.enc := by
  have h1 : i = r.length + 1 := by
    have := congrArg List.length hr
    simp at this
    omega
  rw [hr] at hR
  refine ⟨h1, ?_, ?_⟩
  · have := congrArg (fun m => m[0]?) hR
    simp only [List.map_cons, List.getElem?_cons_zero] at this
    rw [List.getElem?_take_of_lt (by omega)] at this
    exact this
  · have := congrArg (List.drop 1) hR
    rw [List.drop_take] at this
    simpa using this
theorem s22 (l : List Entry) (t : Int) (hl : l.length ≤ 1000000) : Runs C 22 [.sl 4 (l.map Entry.enc), tI t] (popT (popQ l t)) := by
  refine Runs.of (fun n => e22 n _ _) ?_
  unfold popQ
  by_cases c1 : checkQ l = 0
  · rw [if_neg (by simp [c1])]
    have k1 := loop_overZ (R := List Tree) (Z := List AV × Heap → Option (List Tree)) (B := fun n z p again => L22_1 n [.sl 4 (l.map Entry.enc)] t z p again) (s := (([.t (tI 0)], [.box [.t (tI 0), .t (tI 0), .t (tI 0), .t (tI 0)], .row false 0 4 (l.map Entry.enc)]) : List AV × Heap)) l (fun i (_ : Unit) => (([.t (tI i)], [.box [.t (tI 0), .t (tI 0), .t (tI 0), .t (tI 0)], .row false 0 4 (l.map Entry.enc)]) : List AV × Heap))
      (fun i _ x => if decide (x.exp ≤ t) = true then .done (i : Int) else .next ()) (fun _ => -1) (fun z (q : Int) => z ([.t (tI q)], [.box [.t (tI 0), .t (tI 0), .t (tI 0), .t (tI 0)], .row false 0 4 (l.map Entry.enc)])) (fun _ _ => True) () rfl trivial (find_run0 _ l)
      (fun i s x hx hI => Ev.of fun n z again => ?_) (fun _ _ _ _ _ _ _ => trivial) (fun s hI => Ev.of fun n z again => ?_)
    · have hfe : freshQ l t = l.filter fun x => !decide (x.exp ≤ t) := by
        unfold freshQ
        congr 1
        funext x
        have : x.exp > t ↔ ¬ x.exp ≤ t := by omega
        rw [decide_eq_decide.2 this, decide_not]
      rw [hfe]
      rcases idx_cases (fun x : Entry => decide (x.exp ≤ t)) l with ⟨hi, hn⟩ | ⟨i, x, hi, hx, hp, hb⟩
      · rw [hi] at k1
        refine ((s26 l hl).and ((s1000048 (l.map Entry.enc) (by simp; omega)).and k1)).mono fun n h => ?_
        have e2 : l.filter (fun x => !decide (x.exp ≤ t)) = l := filter_none fun j y _ hy => hn y (List.mem_of_getElem? hy)
        rw [e2]
        obtain ⟨h0, h1, h2⟩ := h
        simp only [h0, h1, h2, c1, bne_self_eq_false, vv, reduceCtorEq, Nat.reduceAdd, Nat.reduceEqDiff, J22_3, beq_self_eq_true]
        cases l with
        | nil => simp [popR, popT, zeroE, Entry.enc, cnd_eq]
        | cons x r =>
          have : (((r.length + 1 : Nat) : Int) == 0) = false := by simp; omega
          have e1 : List.take r.length (List.map Entry.enc r) = List.map Entry.enc r := List.take_of_length_le (by simp)
          simp only [vv, reduceCtorEq, Nat.reduceAdd, Nat.reduceEqDiff, this, List.map_cons, List.getElem?_cons_zero, Entry.enc, Int.le_refl, (show (0 : Int) < ((r.length + 1 : Nat) : Int) by omega), (show (0 : Int) ≤ 1 by omega), (show (1 : Int) ≤ ((r.length + 1 : Nat) : Int) by omega)]
          by_cases hr : r = []
          · subst hr
            simp [popR, popT, Entry.enc, cnd_eq]
          · have : 0 < r.length := List.length_pos_iff.2 hr
            simp [popR, popT, Entry.enc, cnd_eq, this, e1]
      · rw [hi] at k1
        have hil := lt_of_some hx
        have k2 := del_over (R := List Tree) (B := fun n p again => L22_2 n [.sl 4 (l.map Entry.enc)] t p again) (fun (r : List Entry) => popT (popR r)) (fun x => decide (x.exp ≤ t)) l (fun (s : DS Entry) => (([.t (tI s.i), .t (tI s.j)], [.box [.t (tI 0), .t (tI 0), .t (tI 0), .t (tI 0)], .row false 0 4 (s.es.map Entry.enc)]) : List AV × Heap)) ⟨i, i + 1, l⟩ rfl (DInv.start hx hp hb) (fun s hD => Ev.of fun n again => ?_)
        · refine ((s26 l hl).and ((s1000048 (l.map Entry.enc) (by simp; omega)).and (k1.and k2))).mono fun n h => ?_
          obtain ⟨h0, h1, h2, h3⟩ := h
          simp only [h0, h1, h2, c1, bne_self_eq_false, vv, reduceCtorEq, Nat.reduceAdd, Nat.reduceEqDiff, J22_3, (show (((i : Nat) : Int) == -1) = false by simp), w64_succ (show i < 4611686018427387904 by omega)]
          exact h3
        · have hat := hD.at
          obtain ⟨i', j, es⟩ := s
          obtain ⟨d1, d2, d3, d4, d5⟩ := hD
          simp only at d1 d2 d3 d4 d5 hat
          unfold dstep
          simp only
          cases hy : l[j]? with
          | none =>
            have hj : l.length ≤ j := by simpa using hy
            have hR := rowTail (es := es) (L := l.length) d3 (show i' ≤ l.length by omega)
            simp only [L22_2, vv, reduceCtorEq, Nat.reduceAdd, Nat.reduceEqDiff, (show ¬ (j : Int) < (l.length : Int) by omega), d3, (show (i' : Int) ≤ (l.length : Int) by omega), (show i' < l.length by omega), Rd.go_done, rowLen d3 (show i' ≤ l.length by omega), (show 0 < l.length by omega)]
            cases hr : es.take i' with
            | nil =>
              have hi0 : i' = 0 := by
                have := congrArg List.length hr
                rw [List.length_take] at this
                simp only [List.length_nil] at this
                omega
              subst hi0
              simp [popR, popT, zeroE, Entry.enc, cnd_eq]
            | cons x r =>
              obtain ⟨p1, p2, p3⟩ := pop_cons hR hr (by omega)
              have hne : ((i' : Int) == 0) = false := by simp; omega
              simp only [hne, vv, reduceCtorEq, Nat.reduceAdd, Nat.reduceEqDiff, p2, p3, Int.le_refl, (show (0 : Int) < (i' : Int) by omega), Entry.enc, (show (0 : Int) ≤ 1 by omega), (show (1 : Int) ≤ (i' : Int) by omega), (show 1 < l.length by omega)]
              simp [popR, popT, Entry.enc]
          | some y =>
            have hj := lt_of_some hy
            have hi2 : es[i']? = some es[i'] := List.getElem?_eq_getElem (by omega)
            simp only [L22_2, vv, reduceCtorEq, Nat.reduceAdd, Nat.reduceEqDiff, (show (j : Int) < (l.length : Int) by omega), hat, hy, hi2, Entry.enc, (show (i' : Int) < (l.length : Int) by omega), Nat.le_refl, w64_succ (show i' < 4611686018427387904 by omega), w64_succ (show j < 4611686018427387904 by omega), List.drop_succ_cons, List.append_nil]
            by_cases hpy : y.exp ≤ t
            · simp [hpy, cnd_eq, Rd.go_next]
            · simp [hpy, cnd_eq, Rd.go_next, List.map_set, Entry.enc]
    · have hi := lt_of_some hx
      simp only [L22_1, vv, reduceCtorEq, Nat.reduceAdd, Nat.reduceEqDiff, hx, Entry.enc, (show (i : Int) < l.length by omega), w64_succ (show i < 4611686018427387904 by omega)]
      by_cases h : x.exp ≤ t <;> simp [h, cnd_eq, Rd.go_next, Rd.go_done]
    · simp only [L22_1, vv, reduceCtorEq, Nat.reduceAdd, Nat.reduceEqDiff, Int.lt_irrefl]
  · rw [if_pos (by simp [c1])]
    refine (s26 l hl).mono fun n h1 => ?_
    simp only [h1, vv, reduceCtorEq, Nat.reduceAdd, Nat.reduceEqDiff]
    simp [c1, cnd_eq, popT, zeroE, Entry.enc]
theorem big_great {n : Nat} (h : great n = false) : n ≤ 70 := by
  unfold great at h
  simp at h
  omega
theorem law8 (l : List Entry) (x : Entry) (now ticket : Int) : Runs C 8 (.sl 4 (l.map Entry.enc) :: (x.enc ++ [tI now, tI ticket])) [.bool true] := by
  refine Runs.of (fun n => e8 n _ _ _ _ _ _ _) ?_
  have hg := s20 (l.map Entry.enc)
  rw [List.length_map] at hg
  cases hgr : great l.length with
  | true =>
    rw [hgr] at hg
    refine (hg.and s12).mono fun n h => ?_
    simp only [h.1, h.2, vv, reduceCtorEq, Nat.reduceAdd, Nat.reduceEqDiff]
  | false =>
    rw [hgr] at hg
    have h70 := big_great hgr
    have hl : l.length ≤ 1000000 := by omega
    have e0 : (removeQ l ticket).length ≤ l.length := List.length_filter_le _ _
    have e2 : (pushQ l x).1.length ≤ 1000000 := by
      unfold pushQ
      split
      · simp
      · split
        · simp
        · split
          · simp
          · split
            · simp
            · simp only [insQ, insB_len]; omega
    have e3 : (popQ l now).2.1.length ≤ 1000000 := by
      unfold popQ
      split
      · simp
      · have : (freshQ l now).length ≤ l.length := List.length_filter_le _ _
        cases hf : freshQ l now with
        | nil => simp [popR]
        | cons a r => rw [hf] at this; simp only [popR, List.length_cons] at *; omega
    have e4 : List.take (removeQ l ticket).length ((removeQ l ticket).map Entry.enc) = (removeQ l ticket).map Entry.enc := List.take_of_length_le (by simp)
    have base := hg.and (s12.and ((s17 l x hl).and ((s21 l x hl).and ((s22 l now hl).and ((s23 l now hl).and ((s26 l hl).and ((s27 l hl).and ((s28 (pushQ l x).1 (pushQ l x).1 e2).and ((s28 (popQ l now).2.1 (popQ l now).2.1 e3).and ((s1000029 l ticket hl).and ((s30 l ticket hl).and (s28 (removeQ l ticket) (removeQ l ticket) (by omega)))))))))))))
    cases l with
    | nil =>
      refine base.mono fun n h => ?_
      obtain ⟨h1, h2, h3, h4, h5, h6, h7, h8, h9, h10, h11, h12, h13⟩ := h
      simp only [Entry.enc, popT, List.cons_append, List.nil_append, List.map_nil] at h3 h4 h5 h6 h1 h7 h8 h11 h12
      simp only [h1, vv, reduceCtorEq, Nat.reduceAdd, Nat.reduceEqDiff, h3, h4, h5, h6, J8_1, h7, h8, h9, h10, h11, h12, e4, h13, h2, beq_self_eq_true, List.map_nil, Int.natCast_zero, Int.lt_irrefl, Bool.and_self]
      first | done | rfl | simp [cnd_eq]
    | cons y r =>
      refine (base.and ((s24 x y).and (s25 x y))).mono fun n h => ?_
      obtain ⟨⟨h1, h2, h3, h4, h5, h6, h7, h8, h9, h10, h11, h12, h13⟩, h14, h15⟩ := h
      simp only [Entry.enc, popT, List.cons_append, List.nil_append, List.map_cons] at h3 h4 h5 h6 h14 h15 h1 h7 h8 h11 h12
      simp only [h1, vv, reduceCtorEq, Nat.reduceAdd, Nat.reduceEqDiff, h3, h4, h5, h6, List.map_cons, List.getElem?_cons_zero, Entry.enc, (show (0 : Int) < ((r.length + 1 : Nat) : Int) by omega), h14, h15, beq_self_eq_true, J8_1, h7, h8, h9, h10, h11, h12, e4, h13, h2, Bool.and_self]
      first | done | rfl | simp [cnd_eq]

/-! ### Undoes -/
theorem insQ_good {l : List Entry} (hg : GoodQ l) {x : Entry} (hv : ValidE x) (hh : hasT l x.ticket = false) (hl : l.length ≠ 64) : GoodQ (insQ x l) := by
  rw [hasT_false] at hh
  refine ⟨by simp only [insQ, insB_len]; have := hg.len; omega, fun y hy => ?_, ?_, ?_⟩
  · rcases (insB_mem _ _ _ _).1 hy with rfl | hy
    · exact hv
    · exact hg.val y hy
  · have : ∀ y ∈ l, y.ticket ≠ x.ticket := hh
    rw [insQ_tw]
    have hd := hg.dis
    conv at hd => rw [← List.takeWhile_append_dropWhile (p := fun y => ahead y x) (l := l)]
    rw [List.pairwise_append] at hd
    obtain ⟨d1, d2, d3⟩ := hd
    have m1 : ∀ y ∈ l.takeWhile (fun y => ahead y x), y ∈ l := fun y hy => (List.takeWhile_sublist _).subset hy
    have m2 : ∀ y ∈ l.dropWhile (fun y => ahead y x), y ∈ l := fun y hy => (List.dropWhile_sublist _).subset hy
    rw [List.pairwise_append, List.pairwise_cons]
    refine ⟨d1, ⟨fun y hy => (this y (m2 y hy)).symm, d2⟩, fun a ha b hb => ?_⟩
    rcases List.mem_cons.1 hb with rfl | hb
    · exact this a (m1 a ha)
    · exact d3 a ha b hb
  · unfold insQ
    refine insB_pairwise hg.srt (fun y hy hn => ?_) (fun y hy hn => ?_) (fun a ha b hb hab hn => ?_)
    · have hna : ahead y x = false := by simpa using hn
      rcases ahead_tri (hh y hy) with h | h
      · rw [hna] at h; cases h
      · exact h
    · simpa using hn
    · have hna : ahead a x = false := by simpa using hn
      cases hbx : ahead b x with
      | false => rfl
      | true => rw [ahead_tr hab hbx] at hna; cases hna
theorem removeQ_ins {l : List Entry} {x : Entry} (hh : hasT l x.ticket = false) : removeQ (insQ x l) x.ticket = l := by
  unfold removeQ insQ
  rw [insB_filter _ _ _ _ (by simp), List.filter_eq_self]
  intro y hy
  rw [hasT_false] at hh
  simpa using hh y hy
theorem removeQ_none {l : List Entry} {t : Int} (hh : hasT l t = false) : removeQ l t = l := by
  unfold removeQ
  rw [List.filter_eq_self]
  intro y hy
  rw [hasT_false] at hh
  simpa using hh y hy
theorem law10 (l : List Entry) (x : Entry) : Runs C 10 (.sl 4 (l.map Entry.enc) :: x.enc) [.bool true] := by
  refine Runs.of (fun n => e10 n _ _ _ _ _) ?_
  have hg := s20 (l.map Entry.enc)
  rw [List.length_map] at hg
  cases hgr : great l.length with
  | true =>
    rw [hgr] at hg
    refine (hg.and s12).mono fun n h => ?_
    simp only [h.1, h.2, vv, reduceCtorEq, Nat.reduceAdd, Nat.reduceEqDiff]
  | false =>
    rw [hgr] at hg
    have h70 := big_great hgr
    have hl : l.length ≤ 1000000 := by omega
    have h17 := s17 l x hl
    by_cases hc : checkQ l = 0 ∧ ValidE x ∧ hasT l x.ticket = false ∧ l.length ≠ 64
    · obtain ⟨c1, c2, c3, c4⟩ := hc
      have hp : pushQ l x = (insQ x l, 0) := by unfold pushQ; simp [c1, c2, c3, c4]
      rw [hp] at h17
      have hgood := (checkQ_zero l).1 c1
      have hgi := (checkQ_zero _).2 (insQ_good hgood c2 c3 c4)
      have hlen : (insQ x l).length = l.length + 1 := insB_len _ _ _
      have h26 := s26 (insQ x l) (by omega)
      rw [hgi] at h26
      have h29 := s1000029 (insQ x l) x.ticket (by omega)
      rw [removeQ_ins c3] at h29
      have h30 := s1000029 l x.ticket hl
      rw [removeQ_none c3] at h30
      have hmem : decide (x ∈ insQ x l) = true := by rw [decide_eq_true_eq]; exact (insB_mem _ _ _ _).2 (.inl rfl)
      have e4 : List.take l.length (l.map Entry.enc) = l.map Entry.enc := List.take_of_length_le (by simp)
      refine (hg.and (s12.and (h17.and ((s35 (insQ x l) x (by omega)).and (h26.and (h29.and (h30.and (s28 l l hl)))))))).mono fun n h => ?_
      obtain ⟨h1, h2, h3, h4, h5, h6, h7, h8⟩ := h
      simp only [Entry.enc] at h3
      simp only [h1, vv, reduceCtorEq, Nat.reduceAdd, Nat.reduceEqDiff, h3, bne_self_eq_false, hlen, w64_succ (show l.length < 4611686018427387904 by omega), beq_self_eq_true, h4, hmem, h5, h6, e4, h8, h7, h2]
    · have hp : (pushQ l x).1 = [] ∧ (pushQ l x).2 ≠ 0 := by
        unfold pushQ
        split
        · simp
        · split
          · simp
          · split
            · simp
            · split
              · simp
              · rename_i a b c d
                exact absurd ⟨Classical.not_not.1 a, Classical.not_not.1 b, by simpa using c, d⟩ hc
      rw [hp.1] at h17
      refine (hg.and (s12.and h17)).mono fun n h => ?_
      obtain ⟨h1, h2, h3⟩ := h
      simp only [Entry.enc, List.map_nil] at h3
      have : ((pushQ l x).2 != 0) = true := by simp [hp.2]
      simp only [h1, vv, reduceCtorEq, Nat.reduceAdd, Nat.reduceEqDiff, h3, this, Int.natCast_zero, beq_self_eq_true, h2]
end Ab
