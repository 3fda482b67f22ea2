/- Queue: the law Order. -/
import Derived.Test.YtblkfmemhpjbgaaQuD
set_option linter.unusedVariables false
set_option linter.unusedSimpArgs false
namespace Ab
open Go


theorem GoodQ.sub {l l' : List Entry} (h : GoodQ l) (s : l'.Sublist l) : GoodQ l' :=
  ⟨Nat.le_trans s.length_le h.len, fun x hx => h.val x (s.subset hx), h.dis.sublist s, h.srt.sublist s⟩
theorem GoodQ.nil : GoodQ [] := ⟨by simp, by simp, by simp, by simp⟩
theorem srt_ext : ∀ {a b : List Entry}, (a.Pairwise fun a b => ahead a b = true) → (b.Pairwise fun a b => ahead a b = true) → (∀ x, x ∈ a ↔ x ∈ b) → a = b
  | [], [], _, _, _ => rfl
  | [], y :: b, _, _, h => absurd ((h y).2 (by simp)) (by simp)
  | x :: a, [], _, _, h => absurd ((h x).1 (by simp)) (by simp)
  | x :: a, y :: b, ha, hb, h => by
    rw [List.pairwise_cons] at ha hb
    have hxy : x = y := by
      have h1 := (h x).1 (by simp)
      have h2 := (h y).2 (by simp)
      rw [List.mem_cons] at h1 h2
      rcases h1 with h1 | h1
      · exact h1
      · rcases h2 with h2 | h2
        · exact h2.symm
        · have := ahead_asym (ha.1 y h2)
          rw [hb.1 x h1] at this
          cases this
    subst hxy
    congr 1
    refine srt_ext ha.2 hb.2 fun z => ?_
    constructor
    · intro hz
      rcases List.mem_cons.1 ((h z).1 (by simp [hz])) with h1 | h1
      · subst h1; have := ha.1 z hz; rw [ahead_irr] at this; cases this
      · exact h1
    · intro hz
      rcases List.mem_cons.1 ((h z).2 (by simp [hz])) with h1 | h1
      · subst h1; have := hb.1 z hz; rw [ahead_irr] at this; cases this
      · exact h1
def push1 (q : List Entry) (x : Entry) : List Entry := if (pushQ q x).2 = 0 then (pushQ q x).1 else q
def pushAll (m : List Entry) : List Entry := m.foldl push1 []
theorem push1_spec {q : List Entry} (hg : GoodQ q) (x : Entry) : GoodQ (push1 q x) ∧ (push1 q x).length ≤ q.length + 1 ∧ (hasT q x.ticket = false → q.length < 64 → ∀ y, y ∈ push1 q x ↔ y ∈ q ∨ y = x ∧ ValidE x) := by
  unfold push1 pushQ
  have c1 := (checkQ_zero q).2 hg
  simp only [c1, ne_eq, not_true, if_false]
  by_cases c2 : ValidE x
  · rw [if_neg (not_not_intro c2)]
    cases c3 : hasT q x.ticket with
    | true => simp [hg]
    | false =>
      by_cases c4 : q.length = 64
      · simp [c4, hg]
      · simp only [Bool.false_eq_true, if_false, if_neg c4, if_true]
        refine ⟨insQ_good hg c2 c3 c4, by simp [insQ, insB_len], fun _ _ y => ?_⟩
        unfold insQ
        rw [insB_mem]
        constructor
        · rintro (rfl | h)
          · exact .inr ⟨rfl, c2⟩
          · exact .inl h
        · rintro (h | ⟨rfl, _⟩)
          · exact .inr h
          · exact .inl rfl
  · rw [if_pos c2]
    simp [hg, c2]
theorem pushAll_spec : ∀ (m q : List Entry), GoodQ q → (q ++ m).length ≤ 64 → ((q ++ m).Pairwise fun a b => a.ticket ≠ b.ticket) → GoodQ (m.foldl push1 q) ∧ (m.foldl push1 q).length ≤ q.length + m.length ∧ ∀ y, y ∈ m.foldl push1 q ↔ y ∈ q ∨ y ∈ m ∧ ValidE y
  | [], q, hg, _, _ => ⟨hg, by simp, by simp⟩
  | x :: m, q, hg, hl, hd => by
    obtain ⟨h1, h2, h3⟩ := push1_spec hg x
    simp only [List.length_append, List.length_cons] at hl
    have hq : ∀ y ∈ q, y.ticket ≠ x.ticket := fun y hy => (List.pairwise_append.1 hd).2.2 y hy x (by simp)
    have h3' := h3 ((hasT_false _ _).2 hq) (by omega)
    have hd2 : ((push1 q x) ++ m).Pairwise fun a b => a.ticket ≠ b.ticket := by
      rw [List.pairwise_append] at hd ⊢
      obtain ⟨d1, d2, d3⟩ := hd
      rw [List.pairwise_cons] at d2
      refine ⟨h1.dis, d2.2, fun a ha b hb => ?_⟩
      rcases (h3' a).1 ha with h | ⟨rfl, _⟩
      · exact d3 a h b (by simp [hb])
      · exact d2.1 b hb
    have ih := pushAll_spec m (push1 q x) h1 (by simp only [List.length_append]; omega) hd2
    rw [List.foldl_cons]
    refine ⟨ih.1, by have := ih.2.1; simp only [List.length_cons]; omega, fun y => ?_⟩
    rw [ih.2.2 y, h3' y, List.mem_cons]
    constructor
    · rintro ((h | ⟨rfl, h⟩) | h)
      · exact .inl h
      · exact .inr ⟨.inl rfl, h⟩
      · exact .inr ⟨.inr h.1, h.2⟩
    · rintro (h | ⟨rfl | h, hv⟩)
      · exact .inl (.inl h)
      · exact .inl (.inr ⟨rfl, hv⟩)
      · exact .inr ⟨h, hv⟩
theorem pushAll_perm {m m' : List Entry} (hp : m'.Perm m) (hl : m.length ≤ 64) (hd : m.Pairwise fun a b => a.ticket ≠ b.ticket) : pushAll m' = pushAll m := by
  have hd' : m'.Pairwise fun a b => a.ticket ≠ b.ticket := (hp.pairwise_iff fun h => Ne.symm h).2 hd
  obtain ⟨a1, _, a3⟩ := pushAll_spec m [] GoodQ.nil (by simpa using hl) (by simpa using hd)
  obtain ⟨b1, _, b3⟩ := pushAll_spec m' [] GoodQ.nil (by simpa [hp.length_eq] using hl) (by simpa using hd')
  refine srt_ext b1.srt a1.srt fun x => ?_
  show x ∈ m'.foldl push1 [] ↔ x ∈ m.foldl push1 []
  rw [b3 x, a3 x, hp.mem_iff]

/-! ### the loops, from the last one -/
theorem fresh_idem (l : List Entry) (t : Int) : freshQ (freshQ l t) t = freshQ l t := by
  unfold freshQ
  rw [List.filter_filter]
  congr 1
  funext x
  simp
theorem fresh_good {l : List Entry} (h : GoodQ l) (t : Int) : GoodQ (freshQ l t) := h.sub List.filter_sublist
theorem o10 (q : List Entry) (hq : GoodQ q) (now : Int) (p18 p33 : List AV × Heap) (hv : vL p18 0 = q.map Entry.enc) (hb : vB p33 0 = false) : Ev fun n => J9_11 n p18 now p33 = some [.bool true] := by
  have hql := hq.len
  have key := loop_overQ (R := List Tree) (B := fun n p again => L9_10 n p18 now p again) (s := (([.t (.sl 4 (q.map Entry.enc)), .t (tI 0)], [.row false (oVer p33 0) 4 (oEs p33 0)]) : List AV × Heap)) (fun r => [Tree.bool r]) q
    (fun i (r : List Entry) => (([.t (.sl 4 (r.map Entry.enc)), .t (tI i)], [.row false (oVer p33 0) 4 (oEs p33 0)]) : List AV × Heap)) (fun i r x => .next (if x.exp ≤ now then r else freshQ (q.drop (i + 1)) now)) (fun _ => true)
    (fun i r => GoodQ r ∧ freshQ r now = freshQ (q.drop i) now) q rfl ⟨hq, by simp⟩ (r := true) ?_
    (fun i r x hx hI => ?_) (fun i r x r' hx hI hr' => ?_) (fun r hI => ?_)
  · refine key.mono fun n h => ?_
    simp only [J9_11, hb, hv, vv, reduceCtorEq, Nat.reduceAdd, Nat.reduceEqDiff]
    exact h
  · have : ∀ (l : List Entry) (i : Nat) (s : List Entry), runL (fun i r (x : Entry) => Rd.next (if x.exp ≤ now then r else freshQ (q.drop (i + 1)) now)) (fun _ => true) i l s = true := by
      intro l
      induction l with
      | nil => intro i s; rfl
      | cons x l ih => intro i s; exact ih _ _
    exact this q 0 q
  · have hi := lt_of_some hx
    obtain ⟨h1, h2⟩ := hI
    have hrl := h1.len
    have hd : q.drop i = x :: q.drop (i + 1) := by
      rw [List.drop_eq_getElem_cons hi]
      rw [List.getElem?_eq_getElem hi] at hx
      cases hx
      rfl
    by_cases hx0 : x.exp ≤ now
    · refine Ev.of fun n again => ?_
      simp only [L9_10, J9_5, hv, vv, reduceCtorEq, Nat.reduceAdd, Nat.reduceEqDiff, hx, Entry.enc, (show (i : Int) < q.length by omega), hx0, w64_succ (show i < 4611686018427387904 by omega), Rd.go_next]
    · have hp : popQ r now = (x, freshQ (q.drop (i + 1)) now, 0) := by
        unfold popQ
        rw [if_neg (by simp [(checkQ_zero r).2 h1]), h2, hd]
        unfold freshQ
        rw [List.filter_cons_of_pos (by simp; omega)]
        rfl
      have h22 := s22 r now (by omega)
      rw [hp] at h22
      have hg2 : GoodQ (freshQ (q.drop (i + 1)) now) := fresh_good (hq.sub (List.drop_sublist _ _)) now
      have h26 := s26 (freshQ (q.drop (i + 1)) now) (by have := hg2.len; omega)
      rw [(checkQ_zero _).2 hg2] at h26
      refine (h22.and h26).mono fun n h again => ?_
      obtain ⟨k1, k2⟩ := h
      simp only [popT, Entry.enc, List.cons_append, List.nil_append] at k1
      simp only [L9_10, J9_5, hv, vv, reduceCtorEq, Nat.reduceAdd, Nat.reduceEqDiff, hx, Entry.enc, (show (i : Int) < q.length by omega), hx0, k1, bne_self_eq_false, beq_self_eq_true, Bool.and_self, k2, w64_succ (show i < 4611686018427387904 by omega), Rd.go_next]
  · have hi := lt_of_some hx
    obtain ⟨h1, h2⟩ := hI
    simp only [Rd.next.injEq] at hr'
    subst hr'
    have hd : q.drop i = x :: q.drop (i + 1) := by
      rw [List.drop_eq_getElem_cons hi]
      rw [List.getElem?_eq_getElem hi] at hx
      cases hx
      rfl
    by_cases hx0 : x.exp ≤ now
    · rw [if_pos hx0]
      refine ⟨h1, ?_⟩
      rw [h2, hd]
      unfold freshQ
      rw [List.filter_cons_of_neg (by simp; omega)]
    · rw [if_neg hx0]
      exact ⟨fresh_good (hq.sub (List.drop_sublist _ _)) now, fresh_idem _ _⟩
  · obtain ⟨h1, h2⟩ := hI
    have hp : popQ r now = (zeroE, [], 20) := by
      unfold popQ
      rw [if_neg (by simp [(checkQ_zero r).2 h1]), h2, List.drop_length]
      rfl
    have h22 := s22 r now (by have := h1.len; omega)
    rw [hp] at h22
    refine (h22.and s12).mono fun n h again => ?_
    obtain ⟨k1, k2⟩ := h
    simp only [popT, Entry.enc, zeroE, List.cons_append, List.nil_append, List.map_nil] at k1
    simp only [L9_10, hv, vv, reduceCtorEq, Nat.reduceAdd, Nat.reduceEqDiff, Int.lt_irrefl, k1, beq_self_eq_true, k2, J9_9]
/-- Pushing again, comparing. -/
theorem o4 (m : List Entry) (hm : m.length ≤ 12) (q : List Entry) (hpq : pushAll m = q) (hq : GoodQ q) (hd : m.Pairwise fun a b => a.ticket ≠ b.ticket) (now : Int) (p4 p18 : List AV × Heap) (hv : vL p18 0 = q.map Entry.enc) (hsv : sVer p4 0 = m.length) (hso : sOff p4 0 = 0) (hsl : sLen p4 0 = m.length) :
    Ev fun n => loopIter (fun p again => L9_4 n p4 p18 (fun p33 => J9_11 n p18 now p33) p again) n ([.t (.sl 4 []), .t (tI 0)], [.row false m.length 4 (m.map Entry.enc)]) = some [.bool true] := by
  have hql := hq.len
  refine loop_overQ (fun r => [Tree.bool r]) m (fun i (r : List Entry) => (([.t (.sl 4 (r.map Entry.enc)), .t (tI i)], [.row false m.length 4 (m.map Entry.enc)]) : List AV × Heap)) (fun i r x => .next (push1 r x)) (fun _ => true)
    (fun i r => r = (m.take i).foldl push1 [] ∧ r.length ≤ i) [] rfl ⟨rfl, by simp⟩ (runL_fold push1 (fun _ => true) 0 m [])
    (fun i r x hx hI => ?_) (fun i r x r' hx hI hr' => ?_) (fun r hI => ?_)
  · have hi := lt_of_some hx
    obtain ⟨h1, h2⟩ := hI
    refine (s17 r x (by omega)).mono fun n h again => ?_
    simp only [Entry.enc] at h
    simp only [L9_4, hsv, hso, hsl, vv, reduceCtorEq, Nat.reduceAdd, Nat.reduceEqDiff, hx, Entry.enc, (show (i : Int) < m.length by omega), h, w64_succ (show i < 4611686018427387904 by omega), Rd.go_next, push1, beq_iff_eq]
    by_cases h0 : (pushQ r x).2 = 0 <;> simp [h0, cnd_eq]
  · have hi := lt_of_some hx
    obtain ⟨h1, h2⟩ := hI
    simp only [Rd.next.injEq] at hr'
    subst hr'
    have ht : m.take (i + 1) = m.take i ++ [x] := by rw [List.take_add_one, hx]; rfl
    have hg : GoodQ r := by
      rw [h1]
      exact (pushAll_spec (m.take i) [] GoodQ.nil (by simp; omega) (by simpa using hd.sublist (List.take_sublist _ _))).1
    refine ⟨by rw [ht, List.foldl_append, ← h1]; rfl, ?_⟩
    have := (push1_spec hg x).2.1
    omega
  · obtain ⟨h1, h2⟩ := hI
    rw [List.take_length] at h1
    have hrq : r = q := by rw [h1]; exact hpq
    subst hrq
    have h26 := s26 r (by omega)
    rw [(checkQ_zero _).2 hq] at h26
    refine ((s28 r r (by omega)).and (h26.and (o10 r hq now p18 ([.t (.bool false)], [.row false m.length 4 (m.map Entry.enc)]) hv rfl))).mono fun n h again => ?_
    obtain ⟨k1, k2, k3⟩ := h
    simp only [L9_4, hsv, hso, hsl, hv, vv, reduceCtorEq, Nat.reduceAdd, Nat.reduceEqDiff, Int.lt_irrefl, k1, k2, bne_self_eq_false, k3]
def encB (n : Int) : List Tree := [.int .u8 n]
/-- Exchanging elements. -/
theorem o12 (m : List Entry) (hm : m.length ≤ 12) (hd : m.Pairwise fun a b => a.ticket ≠ b.ticket) (q : List Entry) (hpq : pushAll m = q) (hq : GoodQ q) (ord : List Int) (ho : ∀ b ∈ ord, 0 ≤ b ∧ b ≤ 255) (hol : ord.length ≤ 9223372036854775807) (now : Int) (p4 p18 : List AV × Heap) (hv : vL p18 0 = q.map Entry.enc) (hsv : sVer p4 0 = m.length) (hso : sOff p4 0 = 0) (hsl : sLen p4 0 = m.length) :
    Ev fun n => loopIter (fun p again => L9_12 n (ord.map encB) p4 p18 now p again) n ([.t (tI 0)], [.row false m.length 4 (m.map Entry.enc)]) = some [.bool true] := by
  refine loop_overQ (fun r => [Tree.bool r]) ord (fun i (r : List Entry) => (([.t (tI i)], [.row false m.length 4 (r.map Entry.enc)]) : List AV × Heap))
    (fun i r b => .next (if m.length = 0 then r else match r[i % m.length]?, r[b.toNat % m.length]? with
      | some u, some v => (r.set (i % m.length) v).set (b.toNat % m.length) u
      | _, _ => r)) (fun _ => true)
    (fun i r => r.Perm m) m rfl (List.Perm.refl _) (r := true) ?_
    (fun i r b hb hI => Ev.of fun n again => ?_) (fun i r b r' hb hI hr' => ?_) (fun r hI => ?_)
  · have : ∀ (f : Nat → List Entry → Int → List Entry) (l : List Int) (i : Nat) (s : List Entry), runL (fun i r b => Rd.next (f i r b)) (fun _ => true) i l s = true := by
      intro f l
      induction l with
      | nil => intro i s; rfl
      | cons x l ih => intro i s; exact ih _ _
    exact this _ ord 0 m
  · have hi := lt_of_some hb
    have hbb := ho b (List.mem_of_getElem? hb)
    have hrl : r.length = m.length := hI.length_eq
    have hwi : w64 ((i : Int) + 1) = ((i + 1 : Nat) : Int) := by rw [w64_id (by omega) (by omega)]; omega
    have hwb : w64 b = b := w64_id (by omega) (by omega)
    by_cases h0 : m.length = 0
    · simp only [L9_12, hsv, hso, hsl, vv, reduceCtorEq, Nat.reduceAdd, Nat.reduceEqDiff, hb, encB, (show (i : Int) < ord.length by omega), List.getD_cons_zero, isIntT_int, h0, (show ¬ (0 : Int) < ((0 : Nat) : Int) by omega), hwi, Rd.go_next]
    · have t1 : Int.tmod b (m.length : Int) = ((b.toNat % m.length : Nat) : Int) := by
        rw [Int.tmod_eq_emod_of_nonneg hbb.1, Int.natCast_emod, Int.toNat_of_nonneg hbb.1]
      have t2 : Int.tmod (i : Int) (m.length : Int) = ((i % m.length : Nat) : Int) := by
        rw [Int.tmod_eq_emod_of_nonneg (by omega), Int.natCast_emod]
      have l1 : b.toNat % m.length < m.length := Nat.mod_lt _ (by omega)
      have l2 : i % m.length < m.length := Nat.mod_lt _ (by omega)
      have g1 : r[b.toNat % m.length]? = some r[b.toNat % m.length] := List.getElem?_eq_getElem (by omega)
      have g2 : r[i % m.length]? = some r[i % m.length] := List.getElem?_eq_getElem (by omega)
      have g3 : (List.set (r.map Entry.enc) (i % m.length) (r[b.toNat % m.length]).enc)[b.toNat % m.length]? = some ((r.set (i % m.length) r[b.toNat % m.length])[b.toNat % m.length]'(by simp; omega)).enc := by
        rw [← List.map_set, List.getElem?_map, List.getElem?_eq_getElem (by simp; omega)]
        rfl
      generalize (r.set (i % m.length) r[b.toNat % m.length])[b.toNat % m.length]'(by simp; omega) = z at g3
      simp only [Entry.enc] at g3
      simp only [L9_12, hsv, hso, hsl, vv, reduceCtorEq, Nat.reduceAdd, Nat.reduceEqDiff, hb, encB, (show (i : Int) < ord.length by omega), List.getD_cons_zero, isIntT_int, (show (0 : Int) < (m.length : Int) by omega), (show ¬ (m.length : Int) = 0 by omega), hwb, t1, t2, (show ((b.toNat % m.length : Nat) : Int) < (m.length : Int) by omega), (show ((i % m.length : Nat) : Int) < (m.length : Int) by omega), g1, g2, Entry.enc, Nat.le_refl, List.drop_succ_cons, List.append_nil, g3, List.drop_nil, List.cons_append, List.nil_append, hwi, Rd.go_next, h0]
      simp [List.map_set, Entry.enc]
  · have hrl : r.length = m.length := List.Perm.length_eq hI
    simp only [Rd.next.injEq] at hr'
    subst hr'
    split
    · exact hI
    · rename_i h0
      have l1 : b.toNat % m.length < m.length := Nat.mod_lt _ (by omega)
      have l2 : i % m.length < m.length := Nat.mod_lt _ (by omega)
      have g1 : r[b.toNat % m.length]? = some r[b.toNat % m.length] := List.getElem?_eq_getElem (by omega)
      have g2 : r[i % m.length]? = some r[i % m.length] := List.getElem?_eq_getElem (by omega)
      rw [g1, g2]
      exact (List.set_set_perm (by omega) (by omega)).trans hI
  · have hI : r.Perm m := hI
    have hrl : r.length = m.length := hI.length_eq
    have hrd : r.Pairwise fun a b => a.ticket ≠ b.ticket := (hI.pairwise_iff fun h => Ne.symm h).2 hd
    refine (o4 r (by omega) q (by rw [pushAll_perm hI (by omega) hd, hpq]) hq hrd now p4 p18 hv (by omega) hso (by omega)).mono fun n h again => ?_
    rw [hrl] at h
    simp only [L9_12, hsv, hso, hsl, hv, vv, reduceCtorEq, Nat.reduceAdd, Nat.reduceEqDiff, Int.lt_irrefl]
    exact h
/-- The first pushing. -/
theorem o13 (m : List Entry) (hm : m.length ≤ 12) (hd : m.Pairwise fun a b => a.ticket ≠ b.ticket) (ord : List Int) (ho : ∀ b ∈ ord, 0 ≤ b ∧ b ≤ 255) (hol : ord.length ≤ 9223372036854775807) (now : Int) (p4 : List AV × Heap) (hsv : sVer p4 0 = m.length) (hso : sOff p4 0 = 0) (hsl : sLen p4 0 = m.length) :
    Ev fun n => loopIter (fun p again => L9_13 n p4 (ord.map encB) now p again) n ([.t (.sl 4 []), .t (tI 0)], [.row false m.length 4 (m.map Entry.enc)]) = some [.bool true] := by
  obtain ⟨s1, s2, s3⟩ := pushAll_spec m [] GoodQ.nil (by simp; omega) (by simpa using hd)
  refine loop_overQ (fun r => [Tree.bool r]) m (fun i (r : List Entry) => (([.t (.sl 4 (r.map Entry.enc)), .t (tI i)], [.row false m.length 4 (m.map Entry.enc)]) : List AV × Heap)) (fun i r x => .next (push1 r x)) (fun _ => true)
    (fun i r => r = (m.take i).foldl push1 [] ∧ r.length ≤ i) [] rfl ⟨rfl, by simp⟩ (runL_fold push1 (fun _ => true) 0 m [])
    (fun i r x hx hI => ?_) (fun i r x r' hx hI hr' => ?_) (fun r hI => ?_)
  · have hi := lt_of_some hx
    obtain ⟨h1, h2⟩ := hI
    refine (s17 r x (by omega)).mono fun n h again => ?_
    simp only [Entry.enc] at h
    simp only [L9_13, hsv, hso, hsl, vv, reduceCtorEq, Nat.reduceAdd, Nat.reduceEqDiff, hx, Entry.enc, (show (i : Int) < m.length by omega), h, w64_succ (show i < 4611686018427387904 by omega), Rd.go_next, push1, beq_iff_eq]
    by_cases h0 : (pushQ r x).2 = 0 <;> simp [h0, cnd_eq]
  · have hi := lt_of_some hx
    obtain ⟨h1, h2⟩ := hI
    simp only [Rd.next.injEq] at hr'
    subst hr'
    have ht : m.take (i + 1) = m.take i ++ [x] := by rw [List.take_add_one, hx]; rfl
    have hg : GoodQ r := by
      rw [h1]
      exact (pushAll_spec (m.take i) [] GoodQ.nil (by simp; omega) (by simpa using hd.sublist (List.take_sublist _ _))).1
    refine ⟨by rw [ht, List.foldl_append, ← h1]; rfl, ?_⟩
    have := (push1_spec hg x).2.1
    omega
  · obtain ⟨h1, h2⟩ := hI
    rw [List.take_length] at h1
    have hg : GoodQ r := by rw [h1]; exact s1
    refine (o12 m hm hd r h1.symm hg ord ho hol now p4 ([.t (.sl 4 (r.map Entry.enc)), .t (tI m.length)], [.row false m.length 4 (m.map Entry.enc)]) rfl hsv hso hsl).mono fun n h again => ?_
    simp only [L9_13, hsv, hso, hsl, vv, reduceCtorEq, Nat.reduceAdd, Nat.reduceEqDiff, Int.lt_irrefl]
    exact h
def dedup1 (m : List Entry) (x : Entry) : List Entry := if hasT m x.ticket = true then m else m ++ [x]
theorem law9 (l : List Entry) (ord : List Int) (ho : ∀ b ∈ ord, 0 ≤ b ∧ b ≤ 255) (hol : ord.length ≤ 9223372036854775807) (now : Int) : Runs C 9 [.sl 4 (l.map Entry.enc), .sl 1 (ord.map encB), tI now] [.bool true] := by
  refine Runs.of (fun n => e9 n _ _ _) ?_
  by_cases hl : l.length ≤ 12
  · simp only [vv, reduceCtorEq, Nat.reduceAdd, Nat.reduceEqDiff, (show ¬ (12 : Int) < (l.length : Int) by omega)]
    refine loop_overQ (fun r => [Tree.bool r]) l (fun i (m : List Entry) => (([.sref 0 m.length 0 m.length, .t (tI i)], [.row false m.length 4 (m.map Entry.enc)]) : List AV × Heap)) (fun i m x => .next (dedup1 m x)) (fun _ => true)
      (fun i m => m.length ≤ i ∧ m.Pairwise fun a b => a.ticket ≠ b.ticket) [] rfl ⟨by simp, by simp⟩ (runL_fold dedup1 (fun _ => true) 0 l [])
      (fun i m x hx hI => ?_) (fun i m x m' hx hI hm' => ?_) (fun m hI => ?_)
    · have hi := lt_of_some hx
      obtain ⟨h1, h2⟩ := hI
      have k1 := loop_overZ (R := List Tree) (Z := List AV × Heap → Option (List Tree)) (B := fun n z p again => L9_1 n ([.sref 0 m.length 0 m.length, .t (tI i)], [.row false m.length 4 (m.map Entry.enc)]) z p again) (s := (([.t (tI 0)], [.row false m.length 4 (m.map Entry.enc), .box [.t (tI x.ticket), .t (tI x.prio), .t (tI x.exp), .t (tI x.size)]]) : List AV × Heap)) m
        (fun i (_ : Unit) => (([.t (tI i)], [.row false m.length 4 (m.map Entry.enc), .box [.t (tI x.ticket), .t (tI x.prio), .t (tI x.exp), .t (tI x.size)]]) : List AV × Heap))
        (fun i _ y => if decide (y.ticket = x.ticket) = true then .done (i : Int) else .next ()) (fun _ => -1) (fun z (q : Int) => z ([.t (tI q)], [.row false m.length 4 (m.map Entry.enc), .box [.t (tI x.ticket), .t (tI x.prio), .t (tI x.exp), .t (tI x.size)]])) (fun _ _ => True) () rfl trivial (find_run0 _ m)
        (fun i s y hy hI => Ev.of fun n z again => ?_) (fun _ _ _ _ _ _ _ => trivial) (fun s hI => Ev.of fun n z again => ?_)
      · refine k1.mono fun n h again => ?_
        have e1 : List.take m.length (m.map Entry.enc) = m.map Entry.enc := List.take_of_length_le (by simp)
        have hix := idx_nonneg (fun y : Entry => decide (y.ticket = x.ticket)) m
        simp only [L9_14, vv, reduceCtorEq, Nat.reduceAdd, Nat.reduceEqDiff, hx, Entry.enc, (show (i : Int) < l.length by omega), h, J9_2, J9_3, Rd.go_next, dedup1]
        cases hh : hasT m x.ticket with
        | true =>
          have : 0 ≤ idx (fun y : Entry => decide (y.ticket = x.ticket)) m := hix.2 hh
          simp only [this, vv, reduceCtorEq, Nat.reduceAdd, Nat.reduceEqDiff, w64_succ (show i < 4611686018427387904 by omega)]
        | false =>
          have : ¬ 0 ≤ idx (fun y : Entry => decide (y.ticket = x.ticket)) m := fun h => by
            have := hix.1 h
            rw [show m.any _ = hasT m x.ticket from rfl, hh] at this
            cases this
          simp only [this, vv, reduceCtorEq, Nat.reduceAdd, Nat.reduceEqDiff, Nat.le_refl, (show m.length + 1 ≤ 1073741824 by omega), w64_succ (show i < 4611686018427387904 by omega), e1, List.length_append, List.map_append, List.map_cons, List.map_nil, Entry.enc]
      · have hi := lt_of_some hy
        simp only [L9_1, vv, reduceCtorEq, Nat.reduceAdd, Nat.reduceEqDiff, hy, Entry.enc, (show (i : Int) < m.length by omega), w64_succ (show i < 4611686018427387904 by omega), beq_iff_eq]
        by_cases h : y.ticket = x.ticket <;> simp [h, cnd_eq, Rd.go_next, Rd.go_done]
      · simp only [L9_1, vv, reduceCtorEq, Nat.reduceAdd, Nat.reduceEqDiff, Int.lt_irrefl]
    · obtain ⟨h1, h2⟩ := hI
      simp only [Rd.next.injEq] at hm'
      subst hm'
      unfold dedup1
      split
      · exact ⟨by omega, h2⟩
      · rename_i hh
        have hh' := (hasT_false m x.ticket).1 (by simpa using hh)
        refine ⟨by simp; omega, ?_⟩
        rw [List.pairwise_append]
        exact ⟨h2, by simp, fun a ha b hb => by simp at hb; subst hb; exact hh' a ha⟩
    · obtain ⟨h1, h2⟩ := hI
      refine (o13 m (by omega) h2 ord ho hol now ([.sref 0 m.length 0 m.length, .t (tI l.length)], [.row false m.length 4 (m.map Entry.enc)]) rfl rfl rfl).mono fun n h again => ?_
      simp only [L9_14, vv, reduceCtorEq, Nat.reduceAdd, Nat.reduceEqDiff, Int.lt_irrefl]
      exact h
  · refine s12.mono fun n h => ?_
    simp only [vv, reduceCtorEq, Nat.reduceAdd, Nat.reduceEqDiff, (show (12 : Int) < (l.length : Int) by omega), h]
end Ab
