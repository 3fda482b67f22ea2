/- Receiver: the law Complete. -/
import Derived.Test.YthgemjameiibpaaDoorReL5
import Derived.Test.YthgemjameiibpaaDoorReL1
set_option linter.unusedVariables false
set_option linter.unusedSimpArgs false
namespace Ab
open Go

theorem cut_mem : ∀ (k : Nat) (a b : Int), (b - a).toNat ≤ k → ∀ p ∈ cut a b, a ≤ p.1 ∧ p.1 < p.2 ∧ p.2 ≤ b ∧ p.2 ≤ p.1 + 16
  | k, a, b, hk, p, hp => by
    by_cases h : a < b
    · rw [cut_pos h] at hp
      have h1 := cutE_gt h
      rcases List.mem_cons.1 hp with rfl | hp
      · refine ⟨Int.le_refl _, h1.1, h1.2, ?_⟩
        simp only
        unfold cutE
        split <;> omega
      · cases k with
        | zero => omega
        | succ k =>
          have := cut_mem k (cutE a b) b (by omega) p hp
          omega
    · rw [cut_neg h] at hp
      cases hp
theorem cut_cover : ∀ (k : Nat) (a b t : Int), (b - a).toNat ≤ k → a ≤ t → t < b → ∃ p ∈ cut a b, p.1 ≤ t ∧ t < p.2
  | k, a, b, t, hk, h1, h2 => by
    have h : a < b := by omega
    rw [cut_pos h]
    have h3 := cutE_gt h
    by_cases h4 : t < cutE a b
    · exact ⟨(a, cutE a b), List.mem_cons_self, h1, h4⟩
    · cases k with
      | zero => omega
      | succ k =>
        obtain ⟨p, hp, hp2⟩ := cut_cover k (cutE a b) b t (by omega) (by omega) h2
        exact ⟨p, List.mem_cons_of_mem _ hp, hp2⟩
theorem cut_dropLast : ∀ (k : Nat) (a b : Int), (b - a).toNat ≤ k → ∀ p ∈ (cut a b).dropLast, p.2 < b
  | k, a, b, hk, p, hp => by
    by_cases h : a < b
    · rw [cut_pos h] at hp
      have h1 := cutE_gt h
      by_cases h2 : cutE a b < b
      · have hne : cut (cutE a b) b ≠ [] := by rw [cut_pos h2]; simp
        rw [List.dropLast_cons_of_ne_nil hne] at hp
        rcases List.mem_cons.1 hp with rfl | hp
        · exact h2
        · cases k with
          | zero => omega
          | succ k => exact cut_dropLast k (cutE a b) b (by omega) p hp
      · rw [cut_neg h2] at hp
        simp at hp
    · rw [cut_neg h] at hp
      simp at hp
theorem raw_data {D : ByteArray} {p : Int × Int} (h0 : 0 ≤ p.1) (h1 : p.1 < p.2) (h2 : p.2 ≤ D.size) : bl (raw D 5 p).data = ((bl D).drop p.1.toNat).take (p.2.toNat - p.1.toNat) ∧ (raw D 5 p).data.size = p.2.toNat - p.1.toNat := by
  have hb : bl (raw D 5 p).data = ((bl D).drop p.1.toNat).take (p.2.toNat - p.1.toNat) := by
    show bl (D.extract _ _) = _
    rw [bl_extract]
  refine ⟨hb, ?_⟩
  rw [← bl_len, hb]
  simp only [List.length_take, List.length_drop, bl_len]
  omega
theorem raw_of {D : ByteArray} {p : Int × Int} (hD : D.size ≤ 900) (h0 : 0 ≤ p.1) (h1 : p.1 < p.2) (h2 : p.2 ≤ D.size) (h3 : p.2 ≤ p.1 + 16) (x : Seg) (hx : x = raw D 5 p ∨ x = { raw D 5 p with ser := 1, chk := true }) : PieceOf D x ∧ x.off = p.1 ∧ x.off + x.data.size = p.2 := by
  obtain ⟨hb, hs⟩ := raw_data h0 h1 h2
  have hxd : x.data = (raw D 5 p).data := by rcases hx with rfl | rfl <;> rfl
  have hxo : x.off = p.1 := by rcases hx with rfl | rfl <;> rfl
  have hxk : x.kind = 1 := by rcases hx with rfl | rfl <;> rfl
  have hxs : x.ses = 5 := by rcases hx with rfl | rfl <;> rfl
  have hxt : x.tot = D.size := by rcases hx with rfl | rfl <;> rfl
  have hxc : x.claims = [] := by rcases hx with rfl | rfl <;> rfl
  have hxr : (x.chk = true ∧ x.ser = 1) ∨ (x.chk = false ∧ x.ser = 0) := by
    rcases hx with rfl | rfl
    · exact .inr ⟨rfl, rfl⟩
    · exact .inl ⟨rfl, rfl⟩
  have a1 : SegNum x := by
    unfold SegNum
    rw [hxk, hxs, hxt, hxo]
    refine ⟨by omega, by omega, by omega, fun _ => ⟨by omega, by omega, fun h => ?_, fun h => ?_⟩⟩
    · rcases hxr with ⟨c, e⟩ | ⟨c, e⟩
      · omega
      · rw [h] at c; cases c
    · rcases hxr with ⟨c, e⟩ | ⟨c, e⟩
      · rw [h] at c; cases c
      · exact e
  have a2 : SegCon x := by
    unfold SegCon
    rw [hxk, hxt, hxd, hs, hxo, hxc]
    refine ⟨by omega, by omega, fun _ => ?_⟩
    simp
    omega
  refine ⟨⟨?_, hxk, hxs, hxt, fun i hi => ?_⟩, hxo, by rw [hxd, hs, hxo]; omega⟩
  · unfold chkG
    rw [if_neg (not_not_intro (by rw [hxk]; decide)), if_neg (not_not_intro a1), if_neg (not_not_intro a2)]
  · rw [hxd, hb, hxo]
    rw [hxd, hs] at hi
    simp [List.getD_eq_getElem?_getD, List.getElem?_take, hi, List.getElem?_drop]
/-- All of the data, cut into segments. -/
def allL (D : ByteArray) : List Seg := batL 5 1 D [⟨0, D.size⟩]
theorem all_ok {D : ByteArray} (hD : 1 ≤ D.size ∧ D.size ≤ 900) : batE 5 1 D [⟨0, D.size⟩] = 0 ∧ allL D = markLast 1 ((cut 0 D.size).map (raw D 5)) := by
  have hc : chkL [(⟨0, D.size⟩ : Span)] = 0 := chk_whole ⟨hD.1, by omega⟩
  have hi : inside [(⟨0, D.size⟩ : Span)] D.size = true := by
    unfold inside
    rw [decide_eq_true_eq]
    exact ⟨hc, .inr ⟨Int.le_refl _, Int.le_refl _⟩⟩
  have he : batE 5 1 D [⟨0, D.size⟩] = 0 := by
    unfold batE
    rw [if_neg (not_not_intro (by decide)), if_neg (by omega), if_neg (by omega), hi, if_neg (by decide), if_neg (by simp)]
  refine ⟨he, ?_⟩
  unfold allL batL
  rw [if_pos he]
  simp [raws]
theorem all_facts {D : ByteArray} (hD : 1 ≤ D.size ∧ D.size ≤ 900) : allL D ≠ [] ∧ (allL D).length ≤ 900 ∧ (∀ x ∈ allL D, PieceOf D x) ∧ (∀ t : Int, 0 ≤ t → t < D.size → Cov (allL D) t) ∧ ¬ Cov ((allL D).take ((allL D).length - 1)) ((D.size : Int) - 1) := by
  have hpos : (0 : Int) < D.size := by omega
  obtain ⟨_, e⟩ := all_ok hD
  have hne : cut 0 D.size ≠ [] := by rw [cut_pos hpos]; simp
  have hspl := (List.dropLast_concat_getLast hne).symm
  have hmem := cut_mem _ 0 (D.size : Int) (Nat.le_refl _)
  have hcov := fun t => cut_cover _ 0 (D.size : Int) t (Nat.le_refl _)
  have hdl := cut_dropLast _ 0 (D.size : Int) (Nat.le_refl _)
  have hlen := cut_len _ 0 (D.size : Int) (Nat.le_refl _)
  rw [if_pos hpos] at hlen
  generalize hL : (cut 0 (D.size : Int)).getLast hne = z at *
  generalize (cut 0 (D.size : Int)).dropLast = pre at *
  rw [hspl] at e hmem hcov hlen
  rw [List.map_append, List.map_cons, List.map_nil, mark_concat] at e
  have hp : ∀ p ∈ pre, ∀ x, x = raw D 5 p → PieceOf D x ∧ x.off = p.1 ∧ x.off + x.data.size = p.2 := fun p hpp x hx => by
    have := hmem p (List.mem_append_left _ hpp)
    exact raw_of hD.2 (by omega) this.2.1 this.2.2.1 this.2.2.2 x (.inl hx)
  have hz : ∀ x, x = { raw D 5 z with ser := 1, chk := true } → PieceOf D x ∧ x.off = z.1 ∧ x.off + x.data.size = z.2 := fun x hx => by
    have := hmem z (by simp)
    exact raw_of hD.2 (by omega) this.2.1 this.2.2.1 this.2.2.2 x (.inr hx)
  rw [e]
  refine ⟨by simp, ?_, fun x hx => ?_, fun t h1 h2 => ?_, ?_⟩
  · simp only [List.length_append, List.length_map, List.length_cons, List.length_nil] at hlen ⊢
    omega
  · rcases List.mem_append.1 hx with hx | hx
    · obtain ⟨p, hpp, rfl⟩ := List.mem_map.1 hx
      exact (hp p hpp _ rfl).1
    · simp only [List.mem_singleton] at hx
      exact (hz x hx).1
  · obtain ⟨p, hpp, h3, h4⟩ := hcov t h1 h2
    rcases List.mem_append.1 hpp with hpp | hpp
    · obtain ⟨k1, k2, k3⟩ := hp p hpp _ rfl
      exact ⟨raw D 5 p, List.mem_append_left _ (List.mem_map.2 ⟨p, hpp, rfl⟩), by rw [k2]; exact h3, by rw [k3]; exact h4⟩
    · simp only [List.mem_singleton] at hpp
      subst hpp
      obtain ⟨k1, k2, k3⟩ := hz _ rfl
      exact ⟨{ raw D 5 p with ser := 1, chk := true }, by simp, by rw [k2]; exact h3, by rw [k3]; exact h4⟩
  · simp only [List.length_append, List.length_map, List.length_cons, List.length_nil, Nat.zero_add, Nat.add_sub_cancel]
    rw [List.take_append_of_le_length (by simp), List.take_of_length_le (by simp)]
    rintro ⟨x, hx, h1, h2⟩
    obtain ⟨p, hpp, rfl⟩ := List.mem_map.1 hx
    obtain ⟨k1, k2, k3⟩ := hp p hpp _ rfl
    have := hdl p hpp
    omega
/-- Segments that do not matter. -/
def keepF (D : ByteArray) (k : Nat) (x : Seg) : Bool := decide (chkG x = 0 ∧ (x.ses ≠ 5 ∨ x.tot ≠ D.size ∧ 0 < k))
theorem foreign_same {D : ByteArray} {r : Rcv} {l : List Seg} (h : Hd D r l) {k : Nat} (hk : 0 < k → l ≠ []) : ∀ fs : List Seg, (∀ f ∈ fs, keepF D k f = true) → hearAll r fs = r
  | [], _ => rfl
  | f :: fs, hf => by
    have h1 := hf f List.mem_cons_self
    unfold keepF at h1
    rw [decide_eq_true_eq] at h1
    have hns : ¬ suits r f = true := fun hs => by
      obtain ⟨a1, a2, a3, a4, a5⟩ := suits_iff.1 hs
      rcases h1.2 with h2 | ⟨h2, h3⟩
      · rw [h.ses] at a2; exact h2 a2
      · have ht := h.tot
        rw [if_neg (hk h3)] at ht
        rcases a3 with a3 | a3
        · omega
        · exact h2 (by rw [a3, ht])
    unfold hearAll
    rw [List.foldl_cons, hear_ok h.ok h1.1, if_neg hns]
    exact foreign_same h hk fs fun g hg => hf g (List.mem_cons_of_mem _ hg)
theorem hearAll_append (r : Rcv) (a b : List Seg) : hearAll r (a ++ b) = hearAll (hearAll r a) b := by simp [hearAll]
theorem whole_ok {D : ByteArray} (hD : 1 ≤ D.size ∧ D.size ≤ 900) {k : Nat} (hk : k ≤ (allL D).length) {fs : List Seg} (hf : ∀ f ∈ fs, keepF D k f = true) :
    complete (hearAll R5 ((allL D).take k ++ fs ++ (allL D).drop k)) = true ∧ dataR (hearAll R5 ((allL D).take k ++ fs ++ (allL D).drop k)) = (D, 0) := by
  obtain ⟨f1, f2, f3, f4, f5⟩ := all_facts hD
  have s1 := st_all hD.2 ((allL D).take k) [] R5 (st_start D) (fun x hx => by cases hx) (fun x hx => f3 x (List.mem_of_mem_take hx))
  simp only [List.nil_append] at s1
  have hk0 : 0 < k → (allL D).take k ≠ [] := fun h0 h => by
    rw [List.take_eq_nil_iff] at h
    rcases h with h | h
    · omega
    · exact f1 h
  have s2 := foreign_same s1 hk0 fs hf
  have s3 := st_all hD.2 ((allL D).drop k) ((allL D).take k) _ s1 (fun x hx => f3 x (List.mem_of_mem_take hx)) (fun x hx => f3 x (List.mem_of_mem_drop hx))
  rw [List.take_append_drop] at s3
  rw [hearAll_append, hearAll_append, s2]
  generalize hearAll (hearAll R5 ((allL D).take k)) ((allL D).drop k) = r at *
  obtain ⟨c1, c2, c3, c4⟩ := chkR_zero s3.ok
  have ht := s3.tot
  rw [if_neg f1] at ht
  have hkn : r.known = [⟨0, r.tot⟩] := by
    refine canon_unique ((chkL_iff _).1 c2.1).2.1 (b' := -1) ⟨by show (-1 : Int) < 0; decide, by show (0 : Int) < r.tot; omega, trivial⟩ fun t => ?_
    rw [s3.mem]
    simp only [memS, or_false]
    constructor
    · intro hc
      have := cov_in f3 hc
      omega
    · intro hc
      exact f4 t hc.1 (by omega)
  have hcm : complete r = true := by
    unfold complete
    rw [decide_eq_true_eq]
    exact ⟨s3.ok, hkn⟩
  have hsz := st_size s3
  rw [if_neg f1] at hsz
  have hdt : r.data = D := bl_get_ext hsz fun i hi => s3.get i (f4 i (by omega) (by omega))
  refine ⟨hcm, ?_⟩
  unfold dataR
  rw [if_neg (not_not_intro s3.ok), if_neg (by rw [hcm]; decide), hdt]
theorem part_no {D : ByteArray} (hD : 1 ≤ D.size ∧ D.size ≤ 900) : complete (hearAll R5 ((allL D).take ((allL D).length - 1))) = false ∧ (dataR (hearAll R5 ((allL D).take ((allL D).length - 1)))).2 = 25 := by
  obtain ⟨f1, f2, f3, f4, f5⟩ := all_facts hD
  have s1 := st_all hD.2 ((allL D).take ((allL D).length - 1)) [] R5 (st_start D) (fun x hx => by cases hx) (fun x hx => f3 x (List.mem_of_mem_take hx))
  simp only [List.nil_append] at s1
  generalize (allL D).take ((allL D).length - 1) = l at *
  generalize hearAll R5 l = r at *
  have hcm : complete r = false := by
    cases hc : complete r with
    | false => rfl
    | true =>
      unfold complete at hc
      rw [decide_eq_true_eq] at hc
      obtain ⟨c1, c2, c3, c4⟩ := chkR_zero hc.1
      have ht := s1.tot
      by_cases hl : l = []
      · rw [if_pos hl] at ht
        have := c2.2.1.2 ht
        rw [this] at hc
        cases hc.2
      · rw [if_neg hl] at ht
        exact (f5 ((s1.mem _).1 (by rw [hc.2]; exact .inl ⟨by show (0 : Int) ≤ _; omega, by show _ < r.tot; omega⟩))).elim
  refine ⟨hcm, ?_⟩
  unfold dataR
  rw [if_neg (not_not_intro s1.ok), if_pos hcm]
theorem tail8 (D : ByteArray) (hD : 1 ≤ D.size ∧ D.size ≤ 200) (k : Nat) (hk : k ≤ (allL D).length) (fs : List Seg) (hf : ∀ f ∈ fs, keepF D k f = true) (hfl : fs.length ≤ 1000) :
    Ev fun n => apure C n 29 [tI 5, .sl 8 ((((allL D).take k ++ fs) ++ (allL D).drop k).map Seg.enc)] = some ((hearAll R5 (((allL D).take k ++ fs) ++ (allL D).drop k)).enc ++ [.bool true]) := by
  obtain ⟨f1, f2, f3, f4, f5⟩ := all_facts (D := D) ⟨hD.1, by omega⟩
  refine s29 _ (fun x hx => ?_) (by simp; omega)
  rcases List.mem_append.1 hx with hx | hx
  · rcases List.mem_append.1 hx with hx | hx
    · exact (f3 x (List.mem_of_mem_take hx)).1
    · have := hf x hx
      unfold keepF at this
      rw [decide_eq_true_eq] at this
      exact this.1
  · exact (f3 x (List.mem_of_mem_drop hx)).1
theorem loop8 (D : ByteArray) (hD : 1 ≤ D.size ∧ D.size ≤ 200) (fl : List Seg) (hfl : fl.length ≤ 40) (t : Nat) (ht : t < 256) (y7 : List Tree) (hy : gL y7 0 = (allL D).map Seg.enc) :
    Ev fun n => loopIter (fun p again => L8_2 n (fl.map Seg.enc) D (t : Int) y7 p again) n ([.sref 0 0 0 ((allL D).take (t % ((allL D).length + 1))).length, .t (tI 0)], [.row false 0 8 (((allL D).take (t % ((allL D).length + 1))).map Seg.enc)]) = some [.bool true] := by
  have hD9 : 1 ≤ D.size ∧ D.size ≤ 900 := by omega
  obtain ⟨f1, f2, f3, f4, f5⟩ := all_facts hD9
  generalize hkk : t % ((allL D).length + 1) = k at *
  have hk : k ≤ (allL D).length := by have := Nat.mod_lt t (show (allL D).length + 1 > 0 by omega); omega
  have w1 : w64 (((allL D).length : Int) + 1) = (((allL D).length + 1 : Nat) : Int) := w64_succ (by omega)
  have w2 : w64 (t : Int) = t := w64_id (by omega) (by omega)
  refine loop_overQ (fun (b : Bool) => [Tree.bool b]) fl (fun i (s : Nat × List Seg) => (([.sref 0 s.1 0 s.2.length, .t (tI i)], [.row false s.1 8 (s.2.map Seg.enc)]) : List AV × Heap)) (fun _ s x => if keepF D k x = true then .next (s.1 + 1, s.2 ++ [x]) else .next s) (fun _ => true)
    (fun i s => ∃ fs : List Seg, s.2 = (allL D).take k ++ fs ∧ (∀ f ∈ fs, keepF D k f = true) ∧ fs.length ≤ i) (0, (allL D).take k) rfl ⟨[], by simp, (fun f hf => by cases hf), by simp⟩
    ?_ (fun i s x hx hI => ?_) (fun i s x s' hx hI h => ?_) (fun s hI => ?_)
  · have : ∀ (l : List Seg) (i : Nat) (s : Nat × List Seg), runL (fun _ s x => if keepF D k x = true then .next (s.1 + 1, s.2 ++ [x]) else .next s) (fun _ => true) i l s = true := by
      intro l
      induction l with
      | nil => intro i s; rfl
      | cons x l ih =>
        intro i s
        unfold runL
        by_cases hq : keepF D k x = true
        · simp only [hq, if_true]; exact ih _ _
        · simp only [hq, if_false, Bool.false_eq_true]; exact ih _ _
    exact this _ _ _
  · have hi := lt_of_some hx
    obtain ⟨fs, e1, e2, e3⟩ := hI
    obtain ⟨v, acc⟩ := s
    simp only at e1
    have hal : acc.length ≤ 2000 := by rw [e1]; simp; omega
    have htk : List.take acc.length (acc.map Seg.enc) = acc.map Seg.enc := by rw [List.take_of_length_le (by rw [List.length_map]; exact Nat.le_refl _)]
    have kk : acc.length + 1 ≤ 1073741824 := by omega
    refine (s27 x).mono fun n h again => ?_
    simp only [Seg.enc] at h
    have hyl : (gL y7 0).length = (allL D).length := by rw [hy, List.length_map]
    simp only [L8_2, vv, reduceCtorEq, Nat.reduceAdd, Nat.reduceEqDiff, hx, Seg.enc, (show (i : Int) < fl.length by omega), w64_succ (show i < 4611686018427387904 by omega), h, hyl, w1, w2, tmodN, hkk, htk, kk, J8_1, Nat.le_refl, List.length_append]
    unfold keepF
    by_cases c1 : chkG x = 0
    · simp only [c1, beq_self_eq_true, vv, reduceCtorEq, Nat.reduceAdd, Nat.reduceEqDiff]
      by_cases c2 : x.ses = 5
      · simp only [c2, bne_self_eq_false, vv, reduceCtorEq, Nat.reduceAdd, Nat.reduceEqDiff]
        by_cases c3 : x.tot = D.size
        · simp only [c3, bne_self_eq_false, vv, reduceCtorEq, Nat.reduceAdd, Nat.reduceEqDiff]
          simp [Rd.go_next]
        · have c3' : (x.tot != (D.size : Int)) = true := by simpa using c3
          simp only [c3', vv, reduceCtorEq, Nat.reduceAdd, Nat.reduceEqDiff]
          by_cases c4 : 0 < k
          · have c4' : (0 : Int) < (k : Int) := by omega
            simp only [c4', vv, reduceCtorEq, Nat.reduceAdd, Nat.reduceEqDiff]
            simp [c2, c3, c4, Rd.go_next, Seg.enc]
          · have c4' : ¬ (0 : Int) < (k : Int) := by omega
            simp only [c4', vv, reduceCtorEq, Nat.reduceAdd, Nat.reduceEqDiff]
            simp [c3, c4, Rd.go_next]
      · have c2' : (x.ses != 5) = true := by simpa using c2
        simp only [c2', vv, reduceCtorEq, Nat.reduceAdd, Nat.reduceEqDiff]
        simp [c2, Rd.go_next, Seg.enc]
    · have c1' : (chkG x == 0) = false := by simpa using c1
      simp only [c1', vv, reduceCtorEq, Nat.reduceAdd, Nat.reduceEqDiff]
      simp [c1, Rd.go_next]
  · obtain ⟨fs, e1, e2, e3⟩ := hI
    split at h
    · rename_i hq
      simp only [Rd.next.injEq] at h
      subst h
      refine ⟨fs ++ [x], by simp only; rw [e1]; simp, fun f hf => ?_, by simp; omega⟩
      rcases List.mem_append.1 hf with hf | hf
      · exact e2 f hf
      · simp only [List.mem_singleton] at hf
        subst hf
        exact hq
    · simp only [Rd.next.injEq] at h
      subst h
      exact ⟨fs, e1, e2, by omega⟩
  · obtain ⟨fs, e1, e2, e3⟩ := hI
    obtain ⟨v, acc⟩ := s
    simp only at e1
    subst e1
    have hyl : (gL y7 0).length = (allL D).length := by rw [hy, List.length_map]
    obtain ⟨g1, g2⟩ := whole_ok hD9 hk e2
    obtain ⟨g3, g4⟩ := part_no hD9
    have hv := (chkR_zero (r := hearAll R5 ((allL D).take ((allL D).length - 1))))
    have t1 := tail8 D hD k hk fs e2 (by omega)
    have t2 := s29 ((allL D).take ((allL D).length - 1)) (fun x hx => (f3 x (List.mem_of_mem_take hx)).1) (by simp; omega)
    have t3 := s19 (hearAll R5 (((allL D).take k ++ fs) ++ (allL D).drop k))
    have t4 := s21 (hearAll R5 (((allL D).take k ++ fs) ++ (allL D).drop k))
    have t5 := s19 (hearAll R5 ((allL D).take ((allL D).length - 1)))
    have t6 := s21 (hearAll R5 ((allL D).take ((allL D).length - 1)))
    refine (t1.and (t2.and (t3.and (t4.and (t5.and (t6.and s10)))))).mono fun n h again => ?_
    obtain ⟨h1, h2, h3, h4, h5, h6, h7⟩ := h
    have ea : List.take (allL D).length ((allL D).map Seg.enc) = (allL D).map Seg.enc := by rw [List.take_of_length_le (by rw [List.length_map]; exact Nat.le_refl _)]
    have eb : List.take ((allL D).take k ++ fs).length (((allL D).take k ++ fs).map Seg.enc) = ((allL D).take k ++ fs).map Seg.enc := by rw [List.take_of_length_le (by rw [List.length_map]; exact Nat.le_refl _)]
    have wp : w64 (((allL D).length : Int) - 1) = (((allL D).length - 1 : Nat) : Int) := w64_pred (by omega) (by
      have : (allL D).length ≠ 0 := fun h => f1 (List.eq_nil_of_length_eq_zero h)
      omega)
    have kA : ((k : Nat) : Int) ≤ ((allL D).length : Int) := by omega
    have kB : (((allL D).length - 1 : Nat) : Int) ≤ ((allL D).length : Int) := by omega
    have kC : ((allL D).take k ++ fs).length + ((allL D).drop k).length ≤ 1073741824 := by simp; omega
    have ec : List.take (((allL D).take k ++ fs).length + ((allL D).drop k).length) ((((allL D).take k ++ fs) ++ (allL D).drop k).map Seg.enc) = (((allL D).take k ++ fs) ++ (allL D).drop k).map Seg.enc := by
      rw [List.take_of_length_le (by rw [List.length_map, List.length_append]; exact Nat.le_refl _)]
    rw [g2] at h3
    rw [g1] at h4
    rw [g3] at h6
    generalize hearAll R5 (((allL D).take k ++ fs) ++ (allL D).drop k) = ra at *
    generalize hearAll R5 ((allL D).take ((allL D).length - 1)) = rb at *
    generalize dataR rb = db at *
    generalize (allL D).take k ++ fs = acc at *
    simp only [Rcv.enc, List.cons_append, List.nil_append] at h1 h2 h3 h4 h5 h6
    simp only [L8_2, vv, reduceCtorEq, Nat.reduceAdd, Nat.reduceEqDiff, Int.lt_irrefl, hy, w1, w2, tmodN, hkk, kA, ea, Nat.lt_irrefl, Nat.le_refl]
    simp only [← List.map_drop, ← List.map_take, List.length_map, eb, ← List.map_append, kC, ec, h1, wp, kB, vv, reduceCtorEq, Nat.reduceAdd, Nat.reduceEqDiff]
    simp only [h1, h2, h3, h4, h5, h6, h7, g4, beq_self_eq_true, vv, reduceCtorEq, Nat.reduceAdd, Nat.reduceEqDiff]
    simp [beq_bytes, cnd_eq]
theorem s8 (D : ByteArray) (fl : List Seg) (t : Nat) (ht : t < 256) : Runs C 8 [.str D, .sl 8 (fl.map Seg.enc), .int .u8 (t : Int)] [.bool true] := by
  refine Runs.of (fun m => e8 m _ _ _) ?_
  simp only [join_eq]
  have hz : zeroR.enc = [tI 0, tI 0, .sl 2 [], .str (ByteArray.mk #[])] := rfl
  have hg := s9 zeroR fl
  rw [hz] at hg
  simp only [List.cons_append, List.nil_append] at hg
  have hw : ∀ m, apure C m 10 [] = some [Tree.bool true] → J8_4 m D (t : Int) (fl.map Seg.enc) ([AV.t (Tree.bool true)], []) = some [Tree.bool true] := fun m h => by
    simp only [J8_4, vv, reduceCtorEq, Nat.reduceAdd, Nat.reduceEqDiff, h]
  by_cases h1 : D.size = 0
  · refine s10.mono fun m h => ?_
    simp only [size_zero, h1, vv, reduceCtorEq, Nat.reduceAdd, Nat.reduceEqDiff]
    exact hw m h
  · by_cases h2 : 200 < D.size
    · refine s10.mono fun m h => ?_
      simp only [size_zero, h1, (show (200 : Int) < (D.size : Int) by omega), vv, reduceCtorEq, Nat.reduceAdd, Nat.reduceEqDiff]
      exact hw m h
    · simp only [size_zero, h1, (show ¬ (200 : Int) < (D.size : Int) by omega), vv, reduceCtorEq, Nat.reduceAdd, Nat.reduceEqDiff]
      refine Ev.rw hg (fun m h => by simp only [h, vv, reduceCtorEq, Nat.reduceAdd, Nat.reduceEqDiff]; rfl) ?_
      cases hgr : great zeroR fl with
      | true => exact s10.mono hw
      | false =>
        have hfl : fl.length ≤ 40 := by
          simp only [great, Bool.or_eq_false_iff, decide_eq_false_iff_not] at hgr
          omega
        have hD : 1 ≤ D.size ∧ D.size ≤ 200 := by omega
        obtain ⟨f1, f2, f3, f4, f5⟩ := all_facts (D := D) (by omega)
        obtain ⟨a1, a2⟩ := all_ok (D := D) (by omega)
        have hb := s32 5 1 D [⟨0, D.size⟩]
        rw [a1, show batL 5 1 D [⟨0, D.size⟩] = allL D from rfl] at hb
        simp only [List.map_cons, List.map_nil, Span.enc] at hb
        simp only [J8_4, vv, reduceCtorEq, Nat.reduceAdd, Nat.reduceEqDiff]
        refine Ev.rw hb (fun m h => by simp only [h, vv, reduceCtorEq, Nat.reduceAdd, Nat.reduceEqDiff]; rfl) ?_
        have hne : (allL D).length ≠ 0 := fun h => f1 (List.eq_nil_of_length_eq_zero h)
        have hl0 : (((allL D).length : Int) == 0) = false := by rw [beq_eq_false_iff_ne]; omega
        have w1 : w64 (((allL D).length : Int) + 1) = (((allL D).length + 1 : Nat) : Int) := w64_succ (by omega)
        have w2 : w64 (t : Int) = t := w64_id (by omega) (by omega)
        have n0 : ¬ (((allL D).length + 1 : Nat) : Int) = 0 := by omega
        have hk : t % ((allL D).length + 1) < (allL D).length + 1 := Nat.mod_lt _ (by omega)
        have k1 : ((t % ((allL D).length + 1) : Nat) : Int) ≤ ((allL D).length : Int) := by omega
        simp only [bne_self_eq_false, hl0, J8_3, w1, w2, tmodN, n0, k1, vv, reduceCtorEq, Nat.reduceAdd, Nat.reduceEqDiff]
        simp only [← List.map_take]
        have hcl := s1000033 (((allL D).take (t % ((allL D).length + 1))).map Seg.enc) (by simp; omega)
        refine Ev.rw hcl (fun m h => by simp only [h, vv, reduceCtorEq, Nat.reduceAdd, Nat.reduceEqDiff]; rfl) ?_
        exact loop8 D hD fl hfl t ht _ rfl
end Ab
