/- Queue: arrivals; Serve of the reference. -/
import Derived.Test.YtblkfmemhpjbgaaQuE
import Derived.Test.YtblkfmemhpjbgaaQuDec
set_option linter.unusedVariables false
set_option linter.unusedSimpArgs false
namespace Ab
open Go


def hasA (l : List Arr) (t : Int) : Bool := l.any fun x => decide (x.e.ticket = t)
def chkA (l : List Arr) (i : Nat) (_ : Unit) (x : Arr) : Rd Unit Int :=
  if x.at_ < 0 ∨ 1099511627776 < x.at_ ∨ ¬ ValidE x.e then .done 2 else if i ≠ 0 ∧ (l[i - 1]?.map fun y => decide (x.at_ < y.at_)) = some true then .done 9 else if hasA (l.take i) x.e.ticket = true then .done 6 else .next ()
def checkA (l : List Arr) : Int := if 64 < l.length then 4 else runL (chkA l) (fun _ => 0) 0 l ()
def checkR (l : List Arr) (rate : Int) : Int := if rate < 1 ∨ 1000 < rate then 2 else checkA l
structure GoodA (l : List Arr) : Prop where
  len : l.length ≤ 64
  val : ∀ x ∈ l, (0 ≤ x.at_ ∧ x.at_ ≤ 1099511627776) ∧ ValidE x.e
  srt : l.Pairwise fun a b => a.at_ ≤ b.at_
  dis : l.Pairwise fun a b => a.e.ticket ≠ b.e.ticket
theorem hasA_false (l : List Arr) (t : Int) : hasA l t = false ↔ ∀ x ∈ l, x.e.ticket ≠ t := by
  unfold hasA
  rw [Bool.eq_false_iff, ne_eq, List.any_eq_true]
  simp
theorem run_zeroA {α : Type} (f : Nat → Unit → α → Rd Unit Int) (hf : ∀ i x r, f i () x = .done r → r ≠ 0) {l : List α} : ∀ (k i : Nat), i + k = l.length → (runL f (fun _ => (0 : Int)) i (l.drop i) () = 0 ↔ ∀ j x, i ≤ j → l[j]? = some x → f j () x = .next ())
  | 0, i, h => by
    have : l.drop i = [] := List.drop_eq_nil_of_le (by omega)
    rw [this]
    simp only [runL, true_iff]
    intro j x hj hx
    have := lt_of_some hx
    omega
  | k + 1, i, h => by
    have hi : i < l.length := by omega
    rw [List.drop_eq_getElem_cons hi]
    have ih := run_zeroA f hf (l := l) k (i + 1) (by omega)
    have hx : l[i]? = some l[i] := List.getElem?_eq_getElem hi
    cases hs : f i () l[i] with
    | next s =>
      simp only [runL, hs]
      rw [ih]
      constructor
      · intro h j x hj hjx
        rcases Nat.eq_or_lt_of_le hj with rfl | hj
        · rw [hx] at hjx; cases hjx; exact hs
        · exact h j x hj hjx
      · intro h j x hj hjx
        exact h j x (by omega) hjx
    | done r =>
      simp only [runL, hs]
      constructor
      · intro h; exact absurd h (hf _ _ _ hs)
      · intro h
        rw [h i _ (Nat.le_refl _) hx] at hs
        cases hs
theorem checkA_zero (l : List Arr) : checkA l = 0 ↔ GoodA l := by
  unfold checkA
  by_cases hl : 64 < l.length
  · rw [if_pos hl]
    constructor
    · intro h; cases h
    · intro h; have := h.len; omega
  · rw [if_neg hl]
    have key := run_zeroA (chkA l) (fun i x r h => by
      unfold chkA at h
      split at h
      · cases h; decide
      · split at h
        · cases h; decide
        · split at h
          · cases h; decide
          · cases h) (l := l) l.length 0 (by omega)
    rw [List.drop_zero] at key
    rw [key]
    constructor
    · intro h
      have hst : ∀ j x, l[j]? = some x → ((0 ≤ x.at_ ∧ x.at_ ≤ 1099511627776) ∧ ValidE x.e) ∧ hasA (l.take j) x.e.ticket = false ∧ (j ≠ 0 → ∃ y, l[j - 1]? = some y ∧ y.at_ ≤ x.at_) := by
        intro j x hx
        have hs := h j x (by omega) hx
        unfold chkA at hs
        split at hs
        · cases hs
        · rename_i hv
          split at hs
          · cases hs
          · rename_i ha
            split at hs
            · cases hs
            · rename_i hh
              refine ⟨⟨by omega, Classical.byContradiction fun hc => hv (.inr (.inr hc))⟩, by simpa using hh, fun hj => ?_⟩
              have hjl := lt_of_some hx
              have hp : l[j - 1]? = some l[j - 1] := List.getElem?_eq_getElem (by omega)
              refine ⟨_, hp, ?_⟩
              rw [hp, Option.map_some, Option.some.injEq, decide_eq_true_eq] at ha
              have : ¬ x.at_ < (l[j - 1]).at_ := fun hc => ha ⟨hj, hc⟩
              omega
      refine ⟨by omega, fun x hx => ?_, ?_, ?_⟩
      · obtain ⟨j, hj⟩ := List.mem_iff_getElem?.1 hx
        exact (hst j x hj).1
      · refine pairwise_adj (R := fun a b => a.at_ ≤ b.at_) (fun _ _ _ h1 h2 => Int.le_trans h1 h2) l fun j a b ha hb => ?_
        obtain ⟨y, hy, hyb⟩ := (hst (j + 1) b hb).2.2 (by omega)
        rw [Nat.add_sub_cancel, ha] at hy
        cases hy
        exact hyb
      · rw [List.pairwise_iff_getElem]
        intro i j hi hj hij
        exact (hasA_false _ _).1 (hst j l[j] (List.getElem?_eq_getElem hj)).2.1 l[i] (List.mem_iff_getElem?.2 ⟨i, by rw [List.getElem?_take_of_lt hij]; exact List.getElem?_eq_getElem hi⟩)
    · intro hg j x _ hx
      have hj := lt_of_some hx
      have hv := hg.val x (List.mem_of_getElem? hx)
      unfold chkA
      rw [if_neg (fun h => h.elim (fun h => by omega) fun h => h.elim (fun h => by omega) fun h => h hv.2)]
      have hh : hasA (l.take j) x.e.ticket = false := by
        rw [hasA_false]
        intro y hy
        obtain ⟨i, hi⟩ := List.mem_iff_getElem?.1 hy
        have hij : i < j := by have := lt_of_some hi; simp at this; omega
        rw [List.getElem?_take_of_lt hij] at hi
        have := List.pairwise_iff_getElem.1 hg.dis i j (lt_of_some hi) hj hij
        rw [List.getElem?_eq_getElem (lt_of_some hi)] at hi
        rw [List.getElem?_eq_getElem hj] at hx
        rw [← Option.some.inj hi, ← Option.some.inj hx]
        exact this
      rw [hh]
      rw [if_neg]
      · simp
      rintro ⟨hj0, hm⟩
      have hp : l[j - 1]? = some l[j - 1] := List.getElem?_eq_getElem (by omega)
      rw [hp, Option.map_some, Option.some.injEq, decide_eq_true_eq] at hm
      have := List.pairwise_iff_getElem.1 hg.srt (j - 1) j (by omega) hj (by omega)
      rw [List.getElem?_eq_getElem hj] at hx
      rw [← Option.some.inj hx] at hm
      omega

/-! ### checkArrivals -/
theorem s40 (l : List Arr) (hl : l.length ≤ 1000000) : Runs C 40 [.sl 5 (l.map Arr.enc)] [tI (checkA l)] := by
  refine Runs.of (fun n => e40 n _) ?_
  unfold checkA
  by_cases h : 64 < l.length
  · rw [if_pos h]
    refine Ev.of fun n => ?_
    simp only [vv, reduceCtorEq, Nat.reduceAdd, Nat.reduceEqDiff, (show (64 : Int) < (l.length : Int) by omega)]
  · rw [if_neg h]
    simp only [vv, reduceCtorEq, Nat.reduceAdd, Nat.reduceEqDiff, (show ¬ (64 : Int) < (l.length : Int) by omega)]
    refine loop_overQ (fun (r : Int) => [tI r]) l (fun i (_ : Unit) => (([.t (tI i)], []) : List AV × Heap)) (chkA l) (fun _ => 0) (fun _ _ => True) () rfl trivial rfl
      (fun i s x hx hI => ?_) (fun _ _ _ _ _ _ _ => trivial) (fun s hI => Ev.of fun n again => ?_)
    · have hi := lt_of_some hx
      have key : ∀ (L : Nat → List AV × Heap → (List AV × Heap → Option (List Tree)) → List AV × Heap → (List AV × Heap → Option (List Tree)) → Option (List Tree)),
          (∀ n p1 z p again, L n p1 z p again = cnd (decide (vI p 0 < vI p1 0) = true) (cnd ((5:Nat) = 5 ∧ 0 ≤ vI p 0) (Option.bind (l.map Arr.enc)[Int.toNat (vI p 0)]? fun y19 => cnd (okI y19 1) (cnd ((5:Nat) = 5 ∧ 0 ≤ vI p1 0) (Option.bind (l.map Arr.enc)[Int.toNat (vI p1 0)]? fun y20 => cnd (okI y20 1) (cnd ((gI y19 1 == gI y20 1) = true) (some [tI 6]) (again ([.t (tI (w64 (vI p 0 + 1)))], []))) none) none) none) none) (z ([.t (tI (w64 (vI p1 0 + 1)))], []))) →
          Ev fun n => ∀ z, loopIter (fun p again => L n ([.t (tI i)], []) z p again) n ([.t (tI 0)], []) = if hasA (l.take i) x.e.ticket = true then some [tI 6] else z ([.t (tI ((i + 1 : Nat) : Int))], []) := by
        intro L hL
        refine loop_overZ (R := List Tree) (Z := List AV × Heap → Option (List Tree)) (r := hasA (l.take i) x.e.ticket) (l.take i) (fun j (_ : Unit) => (([.t (tI j)], []) : List AV × Heap)) (fun _ _ y => if decide (y.e.ticket = x.e.ticket) = true then .done true else .next ()) (fun _ => false)
          (fun z (q : Bool) => if q = true then some [tI 6] else z ([.t (tI ((i + 1 : Nat) : Int))], [])) (fun _ _ => True) () rfl trivial (runL_any _ 0 _)
          (fun j s y hy hI => Ev.of fun n z again => ?_) (fun _ _ _ _ _ _ _ => trivial) (fun s hI => Ev.of fun n z again => ?_)
        · have hj : j < i := by have := lt_of_some hy; simp at this; omega
          rw [List.getElem?_take_of_lt hj] at hy
          simp only [hL, vv, reduceCtorEq, Nat.reduceAdd, Nat.reduceEqDiff, hy, hx, Arr.enc, (show (j : Int) < (i : Int) by omega), w64_succ (show j < 4611686018427387904 by omega), beq_iff_eq]
          by_cases h : y.e.ticket = x.e.ticket <;> simp [h, cnd_eq, Rd.go_next, Rd.go_done]
        · have hli : (l.take i).length = i := by simp; omega
          simp only [hL, vv, reduceCtorEq, Nat.reduceAdd, Nat.reduceEqDiff, hli, Int.lt_irrefl, w64_succ (show i < 4611686018427387904 by omega)]
      by_cases hi0 : i = 0
      · subst hi0
        refine ((s49 x.e).and (key (fun n p1 z p again => L40_3 n p1 (l.map Arr.enc) z p again) fun _ _ _ _ _ => rfl)).mono fun n h again => ?_
        obtain ⟨h1, h2⟩ := h
        simp only [Entry.enc] at h1
        simp only [Int.natCast_zero] at h2
        simp only [L40_5, J40_4, vv, reduceCtorEq, Nat.reduceAdd, Nat.reduceEqDiff, hx, Arr.enc, (show (0 : Int) < (l.length : Int) by omega), h1, Int.natCast_zero, Int.lt_irrefl, Int.toNat_zero, Int.le_refl, h2]
        unfold chkA
        simp only [ne_eq, not_true, false_and, if_false]
        by_cases a1 : x.at_ < 0
        · simp [a1, cnd_eq, Rd.go_done]
        · by_cases a2 : 1099511627776 < x.at_
          · simp [a1, a2, cnd_eq, Rd.go_done]
          · by_cases a3 : ValidE x.e
            · simp [a1, a2, a3, cnd_eq, Rd.go_done, Rd.go_next, hasA]
            · simp [a1, a2, a3, cnd_eq, Rd.go_done]
      · have hp : l[i - 1]? = some l[i - 1] := List.getElem?_eq_getElem (by omega)
        refine ((s49 x.e).and (key (fun n p1 z p again => L40_2 n p1 (l.map Arr.enc) z p again) fun _ _ _ _ _ => rfl)).mono fun n h again => ?_
        obtain ⟨h1, h2⟩ := h
        simp only [Entry.enc] at h1
        simp only [L40_5, J40_4, vv, reduceCtorEq, Nat.reduceAdd, Nat.reduceEqDiff, hx, hp, Arr.enc, (show (i : Int) < l.length by omega), h1, (show (0 : Int) < (i : Int) by omega), w64_pred (show i < 4611686018427387904 by omega) (by omega), h2]
        unfold chkA
        simp only [ne_eq, hi0, not_false_eq_true, true_and, hp, Option.map_some, Option.some.injEq, decide_eq_true_eq]
        by_cases a1 : x.at_ < 0
        · simp [a1, cnd_eq, Rd.go_done]
        · by_cases a2 : 1099511627776 < x.at_
          · simp [a1, a2, cnd_eq, Rd.go_done]
          · by_cases a3 : ValidE x.e
            · by_cases a4 : x.at_ < (l[i - 1]).at_
              · simp [a1, a2, a3, a4, cnd_eq, Rd.go_done]
              · cases a5 : hasA (l.take i) x.e.ticket <;> simp [a1, a2, a3, a4, a5, cnd_eq, Rd.go_done, Rd.go_next]
            · simp [a1, a2, a3, cnd_eq, Rd.go_done]
    · simp only [L40_5, vv, reduceCtorEq, Nat.reduceAdd, Nat.reduceEqDiff, Int.lt_irrefl]
theorem s36 (l : List Arr) (rate : Int) (hl : l.length ≤ 1000000) : Runs C 36 [.sl 5 (l.map Arr.enc), tI rate] [tI (checkR l rate)] := by
  refine Runs.of (fun n => e36 n _ _) ?_
  unfold checkR
  by_cases r1 : rate < 1
  · refine Ev.of fun n => ?_
    simp [r1, cnd_eq]
  by_cases r2 : 1000 < rate
  · refine Ev.of fun n => ?_
    simp [r1, r2, cnd_eq]
  rw [if_neg (by omega)]
  unfold checkA
  by_cases h : 64 < l.length
  · rw [if_pos h]
    refine Ev.of fun n => ?_
    simp only [vv, reduceCtorEq, Nat.reduceAdd, Nat.reduceEqDiff, r1, r2, (show (64 : Int) < (l.length : Int) by omega)]
  · rw [if_neg h]
    simp only [vv, reduceCtorEq, Nat.reduceAdd, Nat.reduceEqDiff, r1, r2, (show ¬ (64 : Int) < (l.length : Int) by omega)]
    refine loop_overQ (fun (r : Int) => [tI r]) l (fun i (_ : Unit) => (([.t (tI i)], []) : List AV × Heap)) (chkA l) (fun _ => 0) (fun _ _ => True) () rfl trivial rfl
      (fun i s x hx hI => ?_) (fun _ _ _ _ _ _ _ => trivial) (fun s hI => Ev.of fun n again => ?_)
    · have hi := lt_of_some hx
      have hli : (l.take i).length = i := by simp; omega
      have key : Ev fun n => ∀ z, loopIter (fun p again => L36_7 n ([.t (tI i)], []) (l.map Arr.enc) x.enc z p again) n ([.t (tI 0)], [.box []]) = z ([.t (tI (idx (fun y : Arr => decide (y.e.ticket = x.e.ticket)) (l.take i)))], [.box []]) := by
        refine loop_overZ (R := List Tree) (Z := List AV × Heap → Option (List Tree)) (B := fun n z p again => L36_7 n ([.t (tI i)], []) (l.map Arr.enc) x.enc z p again) (l.take i) (fun j (_ : Unit) => (([.t (tI j)], [.box []]) : List AV × Heap)) (fun j _ y => if decide (y.e.ticket = x.e.ticket) = true then .done (j : Int) else .next ()) (fun _ => -1)
          (fun z (q : Int) => z ([.t (tI q)], [.box []])) (fun _ _ => True) () rfl trivial (find_run0 _ _)
          (fun j s y hy hI => Ev.of fun n z again => ?_) (fun _ _ _ _ _ _ _ => trivial) (fun s hI => Ev.of fun n z again => ?_)
        · have hj : j < i := by have := lt_of_some hy; simp at this; omega
          have hy2 : (List.take i (l.map Arr.enc))[j]? = some y.enc := by rw [← List.map_take, List.getElem?_map, hy]; rfl
          have hln : (List.take i (l.map Arr.enc)).length = i := by simp; omega
          simp only [L36_7, vv, reduceCtorEq, Nat.reduceAdd, Nat.reduceEqDiff, hy2, hln, Arr.enc, (show (j : Int) < (i : Int) by omega), w64_succ (show j < 4611686018427387904 by omega), beq_iff_eq]
          by_cases h : y.e.ticket = x.e.ticket <;> simp [h, cnd_eq, Rd.go_next, Rd.go_done]
        · have hln : (List.take i (l.map Arr.enc)).length = i := by simp; omega
          simp only [L36_7, vv, reduceCtorEq, Nat.reduceAdd, Nat.reduceEqDiff, hln, hli, Int.lt_irrefl]
      have hix := idx_nonneg (fun y : Arr => decide (y.e.ticket = x.e.ticket)) (l.take i)
      have hixd : (0 ≤ idx (fun y : Arr => decide (y.e.ticket = x.e.ticket)) (l.take i)) = (hasA (l.take i) x.e.ticket = true) := propext hix
      simp only [Arr.enc] at key
      by_cases hi0 : i = 0
      · subst hi0
        refine ((s43 x.e).and key).mono fun n h again => ?_
        obtain ⟨h1, h2⟩ := h
        simp only [Entry.enc] at h1
        simp only [Int.natCast_zero] at h2
        simp only [L36_12, J36_11, J36_10, J36_8, J36_9, vv, reduceCtorEq, Nat.reduceAdd, Nat.reduceEqDiff, hx, Arr.enc, (show (0 : Int) < (l.length : Int) by omega), h1, Int.natCast_zero, Int.lt_irrefl, Int.toNat_zero, Int.le_refl, (show (0 : Int) ≤ (l.length : Int) by omega), h2, hixd]
        unfold chkA
        simp only [ne_eq, not_true, false_and, if_false]
        have w1 : w64 (0 + 1) = 1 := w64_id (by omega) (by omega)
        by_cases a1 : x.at_ < 0
        · simp [a1, cnd_eq, Rd.go_done]
        · by_cases a2 : 1099511627776 < x.at_
          · simp [a1, a2, cnd_eq, Rd.go_done]
          · by_cases a3 : ValidE x.e
            · simp only [a1, a2, a3, vv, reduceCtorEq, Nat.reduceAdd, Nat.reduceEqDiff, Rd.go_done, Rd.go_next, hasA, List.take_zero, List.any_nil, w1]
              simp [Rd.go_next]
            · simp [a1, a2, a3, cnd_eq, Rd.go_done]
      · have hp : l[i - 1]? = some l[i - 1] := List.getElem?_eq_getElem (by omega)
        refine ((s43 x.e).and key).mono fun n h again => ?_
        obtain ⟨h1, h2⟩ := h
        simp only [Entry.enc] at h1
        simp only [L36_12, J36_11, J36_10, J36_8, J36_9, vv, reduceCtorEq, Nat.reduceAdd, Nat.reduceEqDiff, hx, hp, Arr.enc, (show (i : Int) < l.length by omega), h1, (show (0 : Int) < (i : Int) by omega), (show (i : Int) ≤ (l.length : Int) by omega), w64_pred (show i < 4611686018427387904 by omega) (by omega), h2, hixd, w64_succ (show i < 4611686018427387904 by omega)]
        unfold chkA
        simp only [ne_eq, hi0, not_false_eq_true, true_and, hp, Option.map_some, Option.some.injEq, decide_eq_true_eq]
        by_cases a1 : x.at_ < 0
        · simp [a1, cnd_eq, Rd.go_done]
        · by_cases a2 : 1099511627776 < x.at_
          · simp [a1, a2, cnd_eq, Rd.go_done]
          · by_cases a3 : ValidE x.e
            · by_cases a4 : x.at_ < (l[i - 1]).at_
              · simp [a1, a2, a3, a4, cnd_eq, Rd.go_done]
              · cases a5 : hasA (l.take i) x.e.ticket <;> simp [a1, a2, a3, a4, a5, cnd_eq, Rd.go_done, Rd.go_next]
            · simp [a1, a2, a3, cnd_eq, Rd.go_done]
    · simp only [L36_12, vv, reduceCtorEq, Nat.reduceAdd, Nat.reduceEqDiff, Int.lt_irrefl]
end Ab
