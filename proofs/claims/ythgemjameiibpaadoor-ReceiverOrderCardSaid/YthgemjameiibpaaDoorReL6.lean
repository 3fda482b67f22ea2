/- Receiver: the law Order. -/
import Derived.Test.YthgemjameiibpaaDoorReL5
import Derived.Test.YthgemjameiibpaaDoorReL1
set_option linter.unusedVariables false
set_option linter.unusedSimpArgs false
namespace Ab
open Go

def swapN (l : List Seg) (i j : Nat) : List Seg := match l[i]?, l[j]? with
  | some a, some b => (l.set i b).set j a
  | _, _ => l
theorem swapN_perm (l : List Seg) (i j : Nat) : (swapN l i j).Perm l := by
  unfold swapN
  split
  · rename_i a b ha hb
    obtain ⟨hi, rfl⟩ := List.getElem?_eq_some_iff.1 ha
    obtain ⟨hj, rfl⟩ := List.getElem?_eq_some_iff.1 hb
    exact List.set_set_perm hi hj
  · exact List.Perm.refl _
def revF : Nat → Nat × Int × List Seg → List Seg
  | 0, s => s.2.2
  | k + 1, s => if (s.1 : Int) < s.2.1 then revF k (s.1 + 1, s.2.1 - 1, swapN s.2.2 s.1 s.2.1.toNat) else s.2.2
theorem revF_perm : ∀ (k : Nat) (s : Nat × Int × List Seg), (revF k s).Perm s.2.2
  | 0, s => List.Perm.refl _
  | k + 1, s => by
    unfold revF
    split
    · exact (revF_perm k _).trans (swapN_perm _ _ _)
    · exact List.Perm.refl _
def μ7 (s : Nat × Int × List Seg) : Nat := (s.2.1 - s.1).toNat
theorem revF_more : ∀ (k : Nat) (s : Nat × Int × List Seg), μ7 s ≤ k → revF k s = revF (μ7 s) s
  | 0, s, h => by rw [show μ7 s = 0 by omega]
  | k + 1, s, h => by
    by_cases hl : (s.1 : Int) < s.2.1
    · have e : μ7 s = (μ7 s - 1) + 1 := by unfold μ7; omega
      rw [e]
      unfold revF
      rw [if_pos hl, if_pos hl, revF_more k _ (by unfold μ7 at h ⊢; simp only; omega), revF_more (μ7 s - 1) _ (by unfold μ7 at h ⊢; simp only; omega)]
    · have e : μ7 s = 0 := by unfold μ7; omega
      rw [e]
      unfold revF
      rw [if_neg hl]
theorem swap_enc {l : List Seg} {i j : Nat} {a b : Seg} (ha : l[i]? = some a) (hb : l[j]? = some b) : List.set (List.set (l.map Seg.enc) i b.enc) j a.enc = (swapN l i j).map Seg.enc := by
  unfold swapN
  rw [ha, hb]
  simp [List.map_set]
theorem rev7 (m : List Seg) (hm : m.length ≤ 1000000) : ∃ m' : List Seg, m'.Perm m ∧ Ev fun n => ∀ z : List AV × Heap → Option (List Tree), loopIter (fun p again => L7_1 n [.sl 8 (m.map Seg.enc)] z p again) n ([.t (tI 0), .t (tI (((m.length / 2 : Nat) : Int) - 1))], [.box [], .row false 0 8 (m.map Seg.enc)]) = z ([], [.box [], .row false 0 8 (m'.map Seg.enc)]) := by
  refine ⟨revF (μ7 (0, ((m.length / 2 : Nat) : Int) - 1, m)) (0, ((m.length / 2 : Nat) : Int) - 1, m), revF_perm _ _, ?_⟩
  refine while_overZ (fun (z : List AV × Heap → Option (List Tree)) (q : List Seg) => z ([], [AObj.box [], AObj.row false 0 8 (q.map Seg.enc)])) (fun (s : Nat × Int × List Seg) => (([.t (tI s.1), .t (tI s.2.1)], [.box [], .row false 0 8 (s.2.2.map Seg.enc)]) : List AV × Heap))
    (fun s => if (s.1 : Int) < s.2.1 then .next (s.1 + 1, s.2.1 - 1, swapN s.2.2 s.1 s.2.1.toNat) else .done s.2.2) (fun s => s.2.2.length = m.length ∧ s.2.1 < ((m.length / 2 : Nat) : Int) ∧ -1 ≤ s.2.1 + s.1 ∧ (s.1 : Int) ≤ s.2.1 + 2 + m.length) μ7 (fun s => revF (μ7 s) s) (0, ((m.length / 2 : Nat) : Int) - 1, m) rfl ⟨rfl, by simp only; omega, by simp only; omega, by simp only; omega⟩ rfl
    (fun s hI => Ev.of fun n z again => ?_) (fun s s' hI h => ?_) (fun s hI => ?_)
  · obtain ⟨i, j, l⟩ := s
    obtain ⟨h1, h2, h3, h4⟩ := hI
    simp only at h1 h2 h3 h4
    have hh : w64 (Int.tdiv ((m.length : Nat) : Int) 2) = ((m.length / 2 : Nat) : Int) := by
      rw [Int.tdiv_eq_ediv_of_nonneg (by omega), w64_id (by omega) (by omega)]; omega
    by_cases hl : (i : Int) < j
    · obtain ⟨a, ha⟩ : ∃ a, l[i]? = some a := ⟨l[i]'(by omega), List.getElem?_eq_getElem _⟩
      obtain ⟨b, hb⟩ : ∃ b, l[j.toNat]? = some b := ⟨l[j.toNat]'(by omega), List.getElem?_eq_getElem _⟩
      have hij : ¬ i = j.toNat := by omega
      have hset : (List.set (l.map Seg.enc) i b.enc)[j.toNat]? = some b.enc := by
        rw [List.getElem?_set, if_neg hij, List.getElem?_map, hb]; rfl
      have hsw := swap_enc ha hb
      simp only [Seg.enc] at hset hsw
      have k1 : (0 : Int) ≤ j := by omega
      have k2 : j < ((m.length / 2 : Nat) : Int) := by omega
      have k3 : (i : Int) < ((m.length / 2 : Nat) : Int) := by omega
      have hj1 : w64 (j - 1) = j - 1 := w64_id (by omega) (by omega)
      simp only [L7_1, vv, reduceCtorEq, Nat.reduceAdd, Nat.reduceEqDiff, hl, hh, k1, k2, k3, Nat.zero_add, ha, hb, Seg.enc, List.cons_append, List.nil_append, List.drop_succ_cons, List.drop_nil, List.append_nil, Nat.le_refl, hset, hsw, w64_succ (show i < 4611686018427387904 by omega), hj1, Rd.go_next]
    · simp only [L7_1, vv, reduceCtorEq, Nat.reduceAdd, Nat.reduceEqDiff, hl, Rd.go_done]
  · obtain ⟨i, j, l⟩ := s
    obtain ⟨h1, h2, h3, h4⟩ := hI
    simp only at h1 h2 h3 h4 h
    split at h
    · rename_i hl
      simp only [Rd.next.injEq] at h
      subst h
      refine ⟨⟨by simp only; rw [(swapN_perm l i j.toNat).length_eq, h1], by simp only; omega, by simp only; omega, by simp only; omega⟩, ?_⟩
      unfold μ7
      simp only
      omega
    · cases h
  · obtain ⟨i, j, l⟩ := s
    simp only
    by_cases hl : (i : Int) < j
    · rw [if_pos hl]
      show revF (μ7 (i, j, l)) (i, j, l) = revF _ _
      have e : μ7 (i, j, l) = (μ7 (i, j, l) - 1) + 1 := by unfold μ7; simp only; omega
      rw [e]
      conv => lhs; unfold revF
      rw [if_pos hl]
      exact revF_more _ _ (by unfold μ7; simp only; omega)
    · rw [if_neg hl]
      have e : μ7 (i, j, l) = 0 := by unfold μ7; simp only; omega
      rw [e]
      rfl
theorem cov_perm {l l' : List Seg} (h : ∀ x, x ∈ l ↔ x ∈ l') (t : Int) : Cov l t ↔ Cov l' t := by
  unfold Cov
  constructor
  · rintro ⟨x, hx, k⟩; exact ⟨x, (h x).1 hx, k⟩
  · rintro ⟨x, hx, k⟩; exact ⟨x, (h x).2 hx, k⟩
theorem s7 (D : ByteArray) (p : List Nat) (hp : ∀ n ∈ p, n < 65536) (t : Nat) (ht : t < 256) : Runs C 7 [.str D, .sl 1 (p.map U16.enc), .int .u8 (t : Int)] [.bool true] := by
  refine Runs.of (fun m => e7 m _ _ _) ?_
  simp only [join_eq]
  by_cases hc : D.size = 0 ∨ 200 < D.size ∨ 30 < p.length
  · have hj : ∀ (J : List AV × Heap → Option (List Tree)), (cnd ((D == ByteArray.mk #[]) = true) (J ([AV.t (Tree.bool true)], [])) (cnd (decide ((D.size : Int) > 200) = true) (J ([AV.t (Tree.bool true)], [])) (J ([AV.t (Tree.bool (decide (((p.map U16.enc).length : Int) > 30)))], [])))) = J ([AV.t (Tree.bool true)], []) := fun J => by
      rw [size_zero]
      simp only [cnd_eq, decide_eq_true_eq, List.length_map]
      by_cases h1 : D.size = 0
      · rw [if_pos h1]
      · rw [if_neg h1]
        by_cases h2 : 200 < D.size
        · rw [if_pos (by omega)]
        · rw [if_neg (by omega), decide_eq_true (by omega)]
    refine Ev.conv' (fun m h => (hj _).trans h) ?_
    refine s10.mono fun m h => ?_
    simp only [J7_5, vv, reduceCtorEq, Nat.reduceAdd, Nat.reduceEqDiff, h]
  · have hD : 1 ≤ D.size ∧ D.size ≤ 900 := by omega
    have hj : ∀ (J : List AV × Heap → Option (List Tree)), (cnd ((D == ByteArray.mk #[]) = true) (J ([AV.t (Tree.bool true)], [])) (cnd (decide ((D.size : Int) > 200) = true) (J ([AV.t (Tree.bool true)], [])) (J ([AV.t (Tree.bool (decide (((p.map U16.enc).length : Int) > 30)))], [])))) = J ([AV.t (Tree.bool false)], []) := fun J => by
      rw [size_zero]
      simp only [cnd_eq, decide_eq_true_eq, List.length_map]
      rw [if_neg (by omega), if_neg (by omega), decide_eq_false (by omega)]
    refine Ev.conv' (fun m h => (hj _).trans h) ?_
    have hpl : p.length ≤ 30 := by omega
    simp only [J7_5, vv, reduceCtorEq, Nat.reduceAdd, Nat.reduceEqDiff]
    refine Ev.rw (s23 D p hD hp (by omega)) (fun m h => by simp only [h, vv, reduceCtorEq, Nat.reduceAdd, Nat.reduceEqDiff]; rfl) ?_
    have hll : (p.map (cutSeg D)).length = p.length := by simp
    have hpc : ∀ x ∈ p.map (cutSeg D), PieceOf D x := fun x hx => by
      obtain ⟨n, hn, rfl⟩ := List.mem_map.1 hx
      exact cut_piece hD (hp n hn)
    generalize p.map (cutSeg D) = l at *
    simp only [← hll]
    have hl30 : l.length ≤ 30 := by omega
    have w1 : w64 ((l.length : Int) + 1) = ((l.length + 1 : Nat) : Int) := w64_succ (by omega)
    have w2 : w64 (t : Int) = t := w64_id (by omega) (by omega)
    have hk : t % (l.length + 1) < l.length + 1 := Nat.mod_lt _ (by omega)
    have n0 : ¬ ((l.length + 1 : Nat) : Int) = 0 := by omega
    have k1 : ((t % (l.length + 1) : Nat) : Int) ≤ (l.length : Int) := by omega
    simp only [w1, w2, tmodN, n0, k1, vv, reduceCtorEq, Nat.reduceAdd, Nat.reduceEqDiff]
    refine Ev.rw (s29 l (fun x hx => (hpc x hx).1) (by omega)) (fun m h => by simp only [Rcv.enc, List.cons_append, List.nil_append] at h; simp only [h, vv, reduceCtorEq, Nat.reduceAdd, Nat.reduceEqDiff]; rfl) ?_
    generalize hkk : t % (l.length + 1) = k at *
    have e1 : List.take l.length (l.map Seg.enc) = l.map Seg.enc := by rw [List.take_of_length_le (by rw [List.length_map]; exact Nat.le_refl _)]
    simp only [e1, ← List.map_take, ← List.map_drop]
    have hcc := s1000030 [l.drop k, l.take k, l.take k] (by simp; omega) (by simp)
    simp only [List.map_cons, List.map_nil, LL.enc, List.flatten_cons, List.flatten_nil, List.append_nil] at hcc
    refine Ev.rw hcc (fun m h => by simp only [h, vv, reduceCtorEq, Nat.reduceAdd, Nat.reduceEqDiff]; rfl) ?_
    have hml : (l.drop k ++ (l.take k ++ l.take k)).length ≤ 1000000 := by simp; omega
    have hmem : ∀ x, x ∈ l.drop k ++ (l.take k ++ l.take k) ↔ x ∈ l := fun x => by
      simp only [List.mem_append]
      constructor
      · rintro (h | h | h)
        · exact List.mem_of_mem_drop h
        · exact List.mem_of_mem_take h
        · exact List.mem_of_mem_take h
      · intro h
        rw [← List.take_append_drop k l, List.mem_append] at h
        rcases h with h | h
        · exact .inr (.inl h)
        · exact .inl h
    generalize l.drop k ++ (l.take k ++ l.take k) = m at *
    have hh : w64 (Int.tdiv ((m.length : Nat) : Int) 2) = ((m.length / 2 : Nat) : Int) := by
      rw [Int.tdiv_eq_ediv_of_nonneg (by omega), w64_id (by omega) (by omega)]; omega
    have hh2 : w64 (((m.length / 2 : Nat) : Int) - 1) = ((m.length / 2 : Nat) : Int) - 1 := w64_id (by omega) (by omega)
    have hh3 : ((m.length / 2 : Nat) : Int) ≤ (m.length : Int) := by omega
    obtain ⟨m', hm', hrev⟩ := rev7 m hml
    have hpm : ∀ x ∈ m', PieceOf D x := fun x hx => hpc x ((hmem x).1 (hm'.mem_iff.1 hx))
    have sa := st_all hD.2 l [] R5 (st_start D) (fun x hx => by cases hx) hpc
    have sb := st_all hD.2 m' [] R5 (st_start D) (fun x hx => by cases hx) hpm
    simp only [List.nil_append] at sa sb
    have hme : ∀ x, x ∈ l ↔ x ∈ m' := fun x => by rw [hm'.mem_iff, hmem]
    have heq : hearAll R5 l = hearAll R5 m' := st_unique sa sb (by
      constructor
      · intro h
        cases m' with
        | nil => rfl
        | cons y q => have := (hme y).2 List.mem_cons_self; rw [h] at this; cases this
      · intro h
        cases l with
        | nil => rfl
        | cons y q => have := (hme y).1 List.mem_cons_self; rw [h] at this; cases this) (cov_perm hme)
    have hml' : m'.length = m.length := hm'.length_eq
    simp only [hh, hh2, hh3, vv, reduceCtorEq, Nat.reduceAdd, Nat.reduceEqDiff]
    refine Ev.rw hrev (fun n h => by simp only [h, vv, reduceCtorEq, Nat.reduceAdd, Nat.reduceEqDiff]; rfl) ?_
    simp only [J7_2, vv, reduceCtorEq, Nat.reduceAdd, Nat.reduceEqDiff]
    have e2 : List.take m.length (m'.map Seg.enc) = m'.map Seg.enc := by rw [List.take_of_length_le (by rw [List.length_map, hml']; exact Nat.le_refl _)]
    simp only [e2]
    have hv := sa.ok
    refine ((s29 m' (fun x hx => (hpm x hx).1) (by omega)).and ((s15 (hearAll R5 l) (hearAll R5 l) (by have := chkR_len hv; omega)).and ((s16 (hearAll R5 l)).and s10))).mono fun n h => ?_
    obtain ⟨h1, h2, h3, h4⟩ := h
    rw [← heq] at h1
    generalize hearAll R5 l = q at *
    simp only [Rcv.enc, List.cons_append, List.nil_append] at h1 h2 h3
    simp only [h1, h2, h3, h4, hv, beq_self_eq_true, vv, reduceCtorEq, Nat.reduceAdd, Nat.reduceEqDiff]
end Ab
