/- Queue: transmissions do not overlap. -/
import Derived.Test.YtblkfmemhpjbgaaQuP
import Derived.Test.YtblkfmemhpjbgaaQuY5
set_option linter.unusedVariables false
set_option linter.unusedSimpArgs false
namespace Ab
open Go


/-- A loop over a list of which the state is known at each place. -/
theorem loop_at {S R α : Type} {B : Nat → S → (S → Option R) → Option R} {s : S} {out : R} (l : List α) (st : Nat → S) (hs : s = st 0)
    (hstep : ∀ i x, l[i]? = some x → Ev fun n => ∀ again, B n (st i) again = again (st (i + 1)))
    (hend : Ev fun n => ∀ again, B n (st l.length) again = some out) : Ev fun n => loopIter (B n) n s = some out := by
  refine loop_overQ (Q := R) (σ := Unit) (fun q => q) l (fun i _ => st i) (fun _ _ _ => .next ()) (fun _ => out) (fun _ _ => True) () hs trivial ?_ (fun i _ x hx _ => ?_) (fun _ _ _ _ _ _ _ => trivial) (fun _ _ => hend)
  · have : ∀ (l : List α) (i : Nat), runL (fun (_ : Nat) (_ : Unit) (_ : α) => (Rd.next () : Rd Unit R)) (fun _ => out) i l () = out := by
      intro l
      induction l with
      | nil => intro i; rfl
      | cons x l ih => intro i; exact ih (i + 1)
    exact this l 0
  · exact (hstep i x hx).mono fun n h again => by rw [h]; rfl
theorem tw_mem {α : Type} {p : α → Bool} {x : α} : ∀ {l : List α}, x ∈ l.takeWhile p → p x = true
  | [], h => by cases h
  | y :: l, h => by
    rw [List.takeWhile_cons] at h
    split at h
    · rename_i hy
      rcases List.mem_cons.1 h with rfl | h
      · exact hy
      · exact tw_mem h
    · cases h
structure SI (l : List Arr) (rate T : Int) (s : QS) : Prop where
  got : ∀ (i : Nat) (a : Arr) (v : Int), l[i]? = some a → s.out[i]? = some v → v = -1 ∨ (a.at_ ≤ v - durQ rate a.e ∧ v - durQ rate a.e < a.e.exp ∧ 0 ≤ v ∧ v ≤ T)
  apart : ∀ (i j : Nat) (a b : Arr) (v u : Int), i ≠ j → l[i]? = some a → l[j]? = some b → s.out[i]? = some v → s.out[j]? = some u → v ≠ -1 → u ≠ -1 → v ≤ u - durQ rate b.e ∨ u ≤ v - durQ rate a.e
  wt : ∀ x ∈ s.wait, ∃ a ∈ l, a.e = x ∧ a.at_ ≤ T
  run : s.busy = true → s.fin - durQ rate s.now ≤ T ∧ s.fin - durQ rate s.now < s.now.exp ∧ (∃ a ∈ l, a.e = s.now ∧ a.at_ ≤ s.fin - durQ rate s.now) ∧ ∀ (i : Nat) (a : Arr) (v : Int), l[i]? = some a → s.out[i]? = some v → v ≠ -1 → v ≤ s.fin - durQ rate s.now
theorem SI.mono {l : List Arr} {rate T T' : Int} {s : QS} (h : SI l rate T s) (hT : T ≤ T') : SI l rate T' s where
  got i a v ha hv := by
    rcases h.got i a v ha hv with q | ⟨q1, q2, q3, q4⟩
    · exact .inl q
    · exact .inr ⟨q1, q2, q3, by omega⟩
  apart := h.apart
  wt x hx := by
    obtain ⟨a, h1, h2, h3⟩ := h.wt x hx
    exact ⟨a, h1, h2, by omega⟩
  run hb := by
    obtain ⟨h1, h2, h3, h4⟩ := h.run hb
    exact ⟨by omega, h2, h3, h4⟩
theorem SI.end {l : List Arr} {rate t : Int} {s : QS} (h : SI l rate t s) (hd : l.Pairwise fun a b => a.e.ticket ≠ b.e.ticket) (ho : s.out.length = l.length) (ht : 0 ≤ t) (hr : s.busy = true → 1 ≤ durQ rate s.now) : SI l rate t (endQ l t s) := by
  unfold endQ
  by_cases hq : s.busy = true ∧ t = s.fin
  · rw [if_pos hq]
    obtain ⟨hb, hf⟩ := hq
    obtain ⟨h1, h2, ⟨c, hc, hce, hca⟩, h4⟩ := h.run hb
    obtain ⟨k, hk⟩ := List.mem_iff_getElem?.1 hc
    have hm := markQ_set hd ho hk t
    rw [hce] at hm
    have hkl := lt_of_some hk
    have hself : ∀ i a, l[i]? = some a → i = k → a = c := fun i a ha e => by
      subst e
      rw [hk] at ha
      exact (Option.some.inj ha).symm
    refine ⟨fun i a v ha hv => ?_, fun i j a b v u hij ha hb' hv hu n1 n2 => ?_, h.wt, fun f => by cases f⟩
    · simp only [hm] at hv
      by_cases hik : i = k
      · have := hself i a ha hik
        subst this
        rw [hik, List.getElem?_set_self (by omega)] at hv
        cases hv
        rw [hce]
        have := hr hb
        exact .inr ⟨by omega, by omega, ht, Int.le_refl _⟩
      · rw [List.getElem?_set_ne (by omega)] at hv
        exact h.got i a v ha hv
    · simp only [hm] at hv hu
      by_cases hik : i = k
      · have := hself i a ha hik
        subst this
        rw [hik, List.getElem?_set_self (by omega)] at hv
        cases hv
        rw [List.getElem?_set_ne (by omega)] at hu
        have := h4 j b u hb' hu n2
        rw [hce]
        exact .inr (by omega)
      · by_cases hjk : j = k
        · have := hself j b hb' hjk
          subst this
          rw [hjk, List.getElem?_set_self (by omega)] at hu
          cases hu
          rw [List.getElem?_set_ne (by omega)] at hv
          have := h4 i a v ha hv n1
          rw [hce]
          exact .inl (by omega)
        · rw [List.getElem?_set_ne (by omega)] at hv hu
          exact h.apart i j a b v u hij ha hb' hv hu n1 n2
  · rw [if_neg hq]
    exact h
theorem SI.take {l : List Arr} {rate t : Int} {s : QS} (h : SI l rate t s) (hc : ∀ a ∈ s.co, a ∈ l) : SI l rate t (takeQ t s) where
  got := h.got
  apart := h.apart
  wt x hx := by
    rcases List.mem_append.1 ((insF_perm _ _).mem_iff.1 hx) with hx | hx
    · exact h.wt x hx
    · obtain ⟨a, ha, rfl⟩ := List.mem_map.1 hx
      have h1 := tw_mem ha
      have h2 : a.at_ = t := by simpa using h1
      exact ⟨a, hc a ((List.takeWhile_sublist _).subset ha), rfl, by omega⟩
  run := h.run
theorem SI.exp {l : List Arr} {rate t : Int} {s : QS} (h : SI l rate t s) : SI l rate t (expQ t s) where
  got := h.got
  apart := h.apart
  wt x hx := h.wt x (List.mem_filter.1 hx).1
  run := h.run
theorem SI.pre {l : List Arr} {rate t : Int} {s : QS} (h : SI l rate t s) (hr : s.busy = true → 1 ≤ durQ rate s.now) : SI l rate t (preQ t s) := by
  unfold preQ
  split
  · rename_i x r hw
    split
    · rename_i hq
      obtain ⟨h1, h2, ⟨c, hc, hce, hca⟩, h4⟩ := h.run hq.1
      refine ⟨h.got, h.apart, fun y hy => ?_, fun f => by cases f⟩
      have hy := (List.mem_filter.1 hy).1
      rcases List.mem_cons.1 ((insQ_perm _ _).mem_iff.1 hy) with rfl | hy
      · exact ⟨c, hc, hce, by omega⟩
      · exact h.wt y hy
    · exact h
  · exact h
theorem SI.beg {l : List Arr} {rate t : Int} {s : QS} (h : SI l rate t s) (hf : ∀ x ∈ s.wait, t < x.exp) : SI l rate t (begQ rate t s) := by
  unfold begQ
  split
  · exact h
  · split
    · exact h
    · rename_i x r hw
      obtain ⟨c, hc, hce, hca⟩ := h.wt x (by rw [hw]; simp)
      refine ⟨h.got, h.apart, fun y hy => h.wt y (by rw [hw]; simp [hy]), fun _ => ?_⟩
      have hx := hf x (by rw [hw]; simp)
      simp only
      refine ⟨by omega, by omega, ⟨c, hc, hce, by omega⟩, fun i a v ha hv hn => ?_⟩
      rcases h.got i a v ha hv with q | q
      · exact absurd q hn
      · omega
theorem SI.step {l : List Arr} (hg : GoodA l) {rate : Int} (hr : 1 ≤ rate ∧ rate ≤ 1000) {T t : Int} {s : QS} (h : SI l rate T s) (hT : T ≤ t) (ht : 0 ≤ t) (hq : QInv l s) : SI l rate t (stepQ l rate t s) := by
  have hcl : ∀ a ∈ s.co, a ∈ l := fun a ha => by
    rw [hq.co] at ha
    exact (List.drop_sublist _ _).subset ha
  have hdur : ∀ {z : QS}, QMid l z → z.busy = true → 1 ≤ durQ rate z.now := fun hz hb => (dur_bd hr (hz.nv hb)).1
  have e1 : (endQ l t s).co = s.co := by unfold endQ; split <;> rfl
  have m1 := hq.mid
  have m2 := m1.end t
  have m3 := m2.take hg t
  have m4 := m3.exp t
  have k1 := (h.mono hT).end hg.dis hq.out ht (hdur m1)
  have k2 := k1.take (fun a ha => hcl a (by rw [e1] at ha; exact ha))
  have k3 := k2.exp
  have k4 := k3.pre (hdur m4)
  refine k4.beg fun x hx => ?_
  have hfr : ∀ (w : List Entry) (x : Entry), x ∈ freshQ w t → t < x.exp := fun w x hx => by simpa using (List.mem_filter.1 hx).2
  unfold preQ at hx
  split at hx
  · split at hx
    · exact hfr _ x hx
    · exact hfr _ x hx
  · exact hfr _ x hx
theorem SI.start {l : List Arr} (rate : Int) : SI l rate (-1) (startQ l) where
  got i a v ha hv := by
    have := List.mem_of_getElem? hv
    exact .inl (List.eq_of_mem_replicate this)
  apart i j a b v u _ _ _ hv _ n1 _ := by
    have := List.mem_of_getElem? hv
    exact absurd (List.eq_of_mem_replicate this) n1
  wt x hx := by cases hx
  run hb := by cases hb
theorem single {l : List Arr} (hg : GoodA l) {rate : Int} (hr : 1 ≤ rate ∧ rate ≤ 1000) :
    (∀ (i : Nat) (a : Arr) (v : Int), l[i]? = some a → (serveQ l rate)[i]? = some v → v = -1 ∨ (a.at_ ≤ v - durQ rate a.e ∧ v - durQ rate a.e < a.e.exp ∧ 0 ≤ v ∧ v ≤ 1099520016384)) ∧
    ∀ (i j : Nat) (a b : Arr) (v u : Int), i ≠ j → l[i]? = some a → l[j]? = some b → (serveQ l rate)[i]? = some v → (serveQ l rate)[j]? = some u → v ≠ -1 → u ≠ -1 → v ≤ u - durQ rate b.e ∨ u ≤ v - durQ rate a.e := by
  refine runQ_ind (fun s => QInv l s ∧ ∃ T, T ≤ 1099520016384 ∧ After T s ∧ SI l rate T s) (fun o => (∀ (i : Nat) (a : Arr) (v : Int), l[i]? = some a → o[i]? = some v → v = -1 ∨ (a.at_ ≤ v - durQ rate a.e ∧ v - durQ rate a.e < a.e.exp ∧ 0 ≤ v ∧ v ≤ 1099520016384)) ∧ ∀ (i j : Nat) (a b : Arr) (v u : Int), i ≠ j → l[i]? = some a → l[j]? = some b → o[i]? = some v → o[j]? = some u → v ≠ -1 → u ≠ -1 → v ≤ u - durQ rate b.e ∨ u ≤ v - durQ rate a.e) (fun s t h ht => ?_) (fun s h ht => ?_) _ (startQ l) (Nat.le_refl _) ⟨QInv.start, -1, by omega, ⟨fun hb => (by cases hb), fun a ha => ?_⟩, SI.start rate⟩
  · obtain ⟨hq, T, hT, ha, hs⟩ := h
    have h1 := time_after ha ht
    have h2 := timeQ_bd hg hq ht
    refine ⟨hq.step hg hr ht, t, ?_, after_step hg hr hq ht, hs.step hg hr (by omega) h2.1 hq⟩
    rcases h2.2 with q | ⟨q1, q2⟩
    · omega
    · have := hq.fin q1
      omega
  · obtain ⟨hq, T, hT, ha, hs⟩ := h
    refine ⟨fun i a v h1 h2 => ?_, hs.apart⟩
    rcases hs.got i a v h1 h2 with q | q
    · exact .inl q
    · exact .inr ⟨q.1, q.2.1, q.2.2.1, by omega⟩
  · have := (hg.val a ha).1
    omega
/-! ### the law -/
theorem beg_w {rate v : Int} {x : Entry} (hr : 1 ≤ rate ∧ rate ≤ 1000) (hx : ValidE x) (hv : 0 ≤ v ∧ v ≤ 1099520016384) : w64 (v - w64 (Int.tdiv (w64 (w64 (x.size + rate) - 1)) rate)) = v - durQ rate x := by
  have hb := dur_bd hr hx
  unfold ValidE at hx
  rw [w64_id (x := x.size + rate) (by omega) (by omega), w64_id (x := x.size + rate - 1) (by omega) (by omega), hb.2.2, w64_id (x := durQ rate x) (by omega) (by omega), w64_id (by omega) (by omega)]
theorem inner5 (l : List Arr) (rate : Int) (hg : GoodA l) (hr : 1 ≤ rate ∧ rate ≤ 1000) (i : Nat) (a : Arr) (v : Int) (ha : l[i]? = some a) (hv : (serveQ l rate)[i]? = some v) (hv0 : 0 ≤ v) :
    Ev fun n => ∀ (z : List AV × Heap → Option (List Tree)), loopIter (fun (p : List AV × Heap) (again : List AV × Heap → Option (List Tree)) => L5_2 n (([.t (tI i)], [.box []]) : List AV × Heap) [.sl 1 ((serveQ l rate).map encI), tI 0] (l.map Arr.enc) rate [tI v] z p again) n (([.t (tI 0)], [.box []]) : List AV × Heap) = z ([], [.box []]) := by
  obtain ⟨hgot, hap⟩ := single hg hr
  have hil := lt_of_some ha
  have hl64 := hg.len
  have hlen := serve_len hg hr
  have hva : ValidE a.e := (hg.val a (List.mem_of_getElem? ha)).2
  have hvb : 0 ≤ v ∧ v ≤ 1099520016384 := by
    rcases hgot i a v ha hv with q | q
    · omega
    · omega
  refine loop_overZ (Z := List AV × Heap → Option (List Tree)) (Q := Unit) (List.range i) (fun k (_ : Unit) => (([.t (tI (k : Int))], [.box []]) : List AV × Heap)) (fun _ _ _ => .next ()) (fun _ => ()) (fun z _ => z ([], [.box []])) (fun _ _ => True) () rfl trivial rfl
    (fun k s x hx hI => Ev.of fun n z again => ?_) (fun _ _ _ _ _ _ _ => trivial) (fun s hI => Ev.of fun n z again => ?_)
  · have hki : k < i := by have := lt_of_some hx; simpa using this
    have hkl : k < l.length := by omega
    have hb : l[k]? = some l[k] := List.getElem?_eq_getElem hkl
    have hu : (serveQ l rate)[k]? = some ((serveQ l rate)[k]'(by omega)) := List.getElem?_eq_getElem (by omega)
    generalize (serveQ l rate)[k]'(by omega) = u at hu
    generalize hbb : l[k] = b at hb
    have hvalb : ValidE b.e := (hg.val b (List.mem_of_getElem? hb)).2
    have hub := hgot k b u hb hu
    have hd := hap i k a b v u (by omega) ha hb hv hu (by omega)
    simp only [L5_2, vv, reduceCtorEq, Nat.reduceAdd, Nat.reduceEqDiff, (show (k : Int) < (i : Int) by omega), hu, encI]
    by_cases hu0 : 0 ≤ u
    · have hne : u ≠ -1 := by omega
      have hub2 : 0 ≤ u ∧ u ≤ 1099520016384 := by omega
      have hd := hd hne
      simp only [hu0, vv, reduceCtorEq, Nat.reduceAdd, Nat.reduceEqDiff, hv, encI, ha, Arr.enc, (show ¬ rate = 0 by omega), cndO_self, beg_w hr hva hvb]
      by_cases q : v - durQ rate a.e < u
      · have q2 : ¬ u - durQ rate b.e < v := by omega
        simp only [q, vv, reduceCtorEq, Nat.reduceAdd, Nat.reduceEqDiff, hb, Arr.enc, hu, encI, (show ¬ rate = 0 by omega), beg_w hr hvalb hub2, q2, w64_succ (show k < 4611686018427387904 by omega)]
        rfl
      · simp only [q, vv, reduceCtorEq, Nat.reduceAdd, Nat.reduceEqDiff, w64_succ (show k < 4611686018427387904 by omega)]
        rfl
    · simp only [hu0, vv, reduceCtorEq, Nat.reduceAdd, Nat.reduceEqDiff, w64_succ (show k < 4611686018427387904 by omega)]
      rfl
  · simp only [L5_2, vv, reduceCtorEq, Nat.reduceAdd, Nat.reduceEqDiff, List.length_range, Int.lt_irrefl]
theorem law5 (l : List Arr) (rate : Int) : Runs C 5 [.sl 5 (l.map Arr.enc), tI rate] [.bool true] := by
  refine Runs.of (fun n => e5 n _ _) ?_
  have hgt := s11 (l.map Arr.enc)
  rw [List.length_map] at hgt
  cases hgr : great l.length with
  | true =>
    rw [hgr] at hgt
    refine (hgt.and s12).mono fun n h => ?_
    simp only [h.1, h.2, vv, reduceCtorEq, Nat.reduceAdd, Nat.reduceEqDiff]
  | false =>
    rw [hgr] at hgt
    have h70 := big_great hgr
    have h13 := s13 l rate (by omega)
    by_cases hc : checkR l rate = 0
    · obtain ⟨hr, hg⟩ := checkR_zero.1 hc
      have hs : servR l rate = (serveQ l rate, 0) := by unfold servR; rw [if_neg (by simp [hc])]
      rw [hs] at h13
      have hlen := serve_len hg hr
      obtain ⟨hgot, hap⟩ := single hg hr
      have key : Ev fun n => loopIter (fun (p : List AV × Heap) (again : List AV × Heap → Option (List Tree)) => L5_4 n [.sl 1 ((serveQ l rate).map encI), tI 0] (l.map Arr.enc) rate p again) n (([.t (tI 0)], [.box []]) : List AV × Heap) = some [.bool true] := by
        refine loop_at l (fun i => (([.t (tI (i : Int))], [.box []]) : List AV × Heap)) rfl (fun i a ha => ?_) ?_
        · have hil := lt_of_some ha
          have hva : ValidE a.e := (hg.val a (List.mem_of_getElem? ha)).2
          have hv : (serveQ l rate)[i]? = some ((serveQ l rate)[i]'(by omega)) := List.getElem?_eq_getElem (by omega)
          generalize (serveQ l rate)[i]'(by omega) = v at hv
          have hvb := hgot i a v ha hv
          by_cases hv0 : v < 0
          · have hv1 : v = -1 := by omega
            refine Ev.of fun n again => ?_
            simp only [L5_4, vv, reduceCtorEq, Nat.reduceAdd, Nat.reduceEqDiff, hlen, (show (i : Int) < (l.length : Int) by omega), hv, encI, hv0, hv1, bne_self_eq_false, J5_3, w64_succ (show i < 4611686018427387904 by omega), Int.reduceLT, Int.reduceNeg]
          · have hvv : 0 ≤ v ∧ v ≤ 1099520016384 := by omega
            refine (inner5 l rate hg hr i a v ha hv hvv.1).mono fun n h again => ?_
            simp only [L5_4, vv, reduceCtorEq, Nat.reduceAdd, Nat.reduceEqDiff, hlen, (show (i : Int) < (l.length : Int) by omega), hv, encI, hv0, ha, Arr.enc, (show ¬ rate = 0 by omega), cndO_self, beg_w hr hva hvv, (show ¬ v - durQ rate a.e < a.at_ by omega), (show ¬ a.e.exp ≤ v - durQ rate a.e by omega)]
            rw [h]
            simp only [J5_3, vv, reduceCtorEq, Nat.reduceAdd, Nat.reduceEqDiff, w64_succ (show i < 4611686018427387904 by omega)]
        · refine s12.mono fun n h again => ?_
          simp only [L5_4, vv, reduceCtorEq, Nat.reduceAdd, Nat.reduceEqDiff, hlen, Int.lt_irrefl, h]
      refine (hgt.and (h13.and key)).mono fun n h => ?_
      obtain ⟨h1, h2, h3⟩ := h
      simp only [h1, h2, vv, reduceCtorEq, Nat.reduceAdd, Nat.reduceEqDiff, J5_5, bne_self_eq_false, hlen]
      exact h3
    · have hs : servR l rate = ([], checkR l rate) := by unfold servR; rw [if_pos hc]
      rw [hs] at h13
      refine (hgt.and (h13.and s12)).mono fun n h => ?_
      obtain ⟨h1, h2, h3⟩ := h
      simp only [h1, h2, h3, vv, reduceCtorEq, Nat.reduceAdd, Nat.reduceEqDiff, J5_5, bne_iff_ne, ne_eq, hc, not_false_eq_true, List.map_nil, Int.natCast_zero, beq_self_eq_true]
end Ab
