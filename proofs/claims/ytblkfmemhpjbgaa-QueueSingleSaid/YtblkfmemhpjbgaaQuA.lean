/- Queue: small functions, Check. -/
import Derived.Test.YtblkfmemhpjbgaaQuY
import Derived.Test.YtblkfmemhpjbgaaAbVV
set_option linter.unusedVariables false
set_option linter.unusedSimpArgs false
namespace Ab
open Go
def encI (n : Int) : List Tree := [tI n]

structure Entry where
  ticket : Int
  prio : Int
  exp : Int
  size : Int
  deriving DecidableEq
def Entry.enc (e : Entry) : List Tree := [tI e.ticket, tI e.prio, tI e.exp, tI e.size]
theorem s15 (a b : List Int) (ha : a.length ≤ 1000000) : Runs C 15 [.sl 1 (a.map encI), .sl 1 (b.map encI)] [.bool (decide (a = b))] := by
  refine Runs.of (fun n => e15 n _ _) ?_
  simp only [vv, reduceCtorEq, Nat.reduceAdd, Nat.reduceEqDiff]
  by_cases hl : a.length = b.length
  · simp only [hl, bne_self_eq_false, vv, reduceCtorEq, Nat.reduceAdd, Nat.reduceEqDiff]
    refine loop_overQ (fun r => [Tree.bool r]) a (fun i _ => (([.t (tI i)], []) : List AV × Heap)) (eqStep b) (fun _ => true) (fun _ _ => True) () rfl trivial (eq_run b a 0 (by omega))
      (fun i s x hx hI => Ev.of fun n again => ?_) (fun _ _ _ _ _ _ _ => trivial) (fun s hI => Ev.of fun n again => ?_)
    · have hi := lt_of_some hx
      have hb : b[i]? = some b[i] := List.getElem?_eq_getElem (by omega)
      simp only [L15_1, vv, reduceCtorEq, Nat.reduceAdd, Nat.reduceEqDiff, hx, hb, encI, w64_succ (show i < 4611686018427387904 by omega), (show (i : Int) < b.length by omega), eqStep, Option.some.injEq]
      simp only [cnd_eq]
      grind [Rd.go_next, Rd.go_done]
    · simp only [L15_1, vv, reduceCtorEq, Nat.reduceAdd, Nat.reduceEqDiff, hl, Int.lt_irrefl]
  · refine Ev.of fun n => ?_
    have : ¬ a = b := fun e => hl (by rw [e])
    rw [cnd_pos (by simp; omega)]
    simp [this]
theorem s28 (a b : List Entry) (ha : a.length ≤ 1000000) : Runs C 28 [.sl 4 (a.map Entry.enc), .sl 4 (b.map Entry.enc)] [.bool (decide (a = b))] := by
  refine Runs.of (fun n => e28 n _ _) ?_
  simp only [vv, reduceCtorEq, Nat.reduceAdd, Nat.reduceEqDiff]
  by_cases hl : a.length = b.length
  · simp only [hl, bne_self_eq_false, vv, reduceCtorEq, Nat.reduceAdd, Nat.reduceEqDiff]
    refine loop_overQ (fun r => [Tree.bool r]) a (fun i _ => (([.t (tI i)], []) : List AV × Heap)) (eqStep b) (fun _ => true) (fun _ _ => True) () rfl trivial (eq_run b a 0 (by omega))
      (fun i s x hx hI => Ev.of fun n again => ?_) (fun _ _ _ _ _ _ _ => trivial) (fun s hI => Ev.of fun n again => ?_)
    · have hi := lt_of_some hx
      have hb : b[i]? = some b[i] := List.getElem?_eq_getElem (by omega)
      simp only [L28_1, vv, reduceCtorEq, Nat.reduceAdd, Nat.reduceEqDiff, hx, hb, Entry.enc, w64_succ (show i < 4611686018427387904 by omega), (show (i : Int) < b.length by omega), eqStep, Option.some.injEq]
      cases x with | mk x0 x1 x2 x3 =>
      cases b[i] with | mk y0 y1 y2 y3 =>
      simp only [cnd_eq, Entry.mk.injEq]
      grind [Rd.go_next, Rd.go_done]
    · simp only [L28_1, vv, reduceCtorEq, Nat.reduceAdd, Nat.reduceEqDiff, hl, Int.lt_irrefl]
  · refine Ev.of fun n => ?_
    have : ¬ a = b := fun e => hl (by rw [e])
    rw [cnd_pos (by simp; omega)]
    simp [this]
theorem s56 (l : List Entry) (e : Entry) (hl : l.length ≤ 1000000) : Runs C 56 [.sl 4 (l.map Entry.enc), tI e.ticket, tI e.prio, tI e.exp, tI e.size] [tI (idx (fun x => decide (x = e)) l)] := by
  refine Runs.of (fun n => e56 n _ _ _ _ _) ?_
  refine loop_overQ (fun r => [tI r]) l (fun i _ => (([.t (tI i)], []) : List AV × Heap)) (fun i _ x => if decide (x = e) = true then .done (i : Int) else .next ()) (fun _ => -1) (fun _ _ => True) () rfl trivial (find_run0 _ l)
    (fun i s x hx hI => Ev.of fun n again => ?_) (fun _ _ _ _ _ _ _ => trivial) (fun s hI => Ev.of fun n again => ?_)
  · have hi := lt_of_some hx
    simp only [L56_1, vv, reduceCtorEq, Nat.reduceAdd, Nat.reduceEqDiff, hx, Entry.enc, w64_succ (show i < 4611686018427387904 by omega), (show (i : Int) < l.length by omega)]
    cases x with | mk x0 x1 x2 x3 =>
    cases e with | mk y0 y1 y2 y3 =>
    simp only [cnd_eq, Entry.mk.injEq]
    grind [Rd.go_next, Rd.go_done]
  · simp only [L56_1, vv, reduceCtorEq, Nat.reduceAdd, Nat.reduceEqDiff, Int.lt_irrefl]
theorem s35 (l : List Entry) (e : Entry) (hl : l.length ≤ 1000000) : Runs C 35 [.sl 4 (l.map Entry.enc), tI e.ticket, tI e.prio, tI e.exp, tI e.size] [.bool (decide (e ∈ l))] := by
  refine Runs.of (fun n => e35 n _ _ _ _ _) ?_
  refine (s56 l e hl).mono fun n h => ?_
  simp only [h, vv, reduceCtorEq, Nat.reduceAdd, Nat.reduceEqDiff]
  congr 3
  rw [Bool.eq_iff_iff]
  simp only [decide_eq_true_eq, idx_nonneg]
  simp
theorem s74 (a : Int) : Runs C 74 [tI a] [.bool false] := by
  refine Runs.of (fun n => e74 n _) (Ev.of fun n => ?_)
  simp
def cmpI (a b : Int) : Int := if a < b then -1 else if b < a then 1 else 0
theorem s65 (a b : Int) : Runs C 65 [tI a, tI b] [tI (cmpI a b)] := by
  refine Runs.of (fun n => e65 n _ _) ?_
  refine ((s74 a).and (s74 b)).mono fun n h => ?_
  simp only [h.1, h.2, vv, reduceCtorEq, Nat.reduceAdd, Nat.reduceEqDiff, tI_cnd, cmpI]
theorem s64 (l : List Int) (hl : l.length ≤ 1000) : Runs C 64 [.sl 1 (l.map encI)] [tI ((l.find? (· ≠ 0)).getD 0)] := by
  refine Runs.of (fun n => e64 n _) ?_
  refine loop_overQ (fun r => [tI r]) l (fun i _ => (([.t (tI i)], []) : List AV × Heap)) (fun i _ x => if x ≠ 0 then .done x else .next ()) (fun _ => 0) (fun _ _ => True) () rfl trivial ?_
    (fun i s x hx hI => Ev.of fun n again => ?_) (fun _ _ _ _ _ _ _ => trivial) (fun s hI => Ev.of fun n again => ?_)
  · have : ∀ (i : Nat) (l : List Int), runL (fun _ (_ : Unit) (x : Int) => if x ≠ 0 then .done x else .next ()) (fun _ => 0) i l () = (l.find? (· ≠ 0)).getD 0 := by
      intro i l
      induction l generalizing i with
      | nil => rfl
      | cons x l ih =>
        by_cases hx : x = 0
        · simp only [runL, hx, ne_eq, not_true_eq_false, if_false, List.find?_cons, decide_false]; exact ih _
        · simp [runL, hx]
    exact this 0 l
  · have hi := lt_of_some hx
    simp only [L64_1, vv, reduceCtorEq, Nat.reduceAdd, Nat.reduceEqDiff, hx, encI, w64_succ (show i < 4611686018427387904 by omega), (show (i : Int) < l.length by omega)]
    by_cases h : x = 0 <;> simp [h, cnd_eq, Rd.go_done, Rd.go_next]
  · simp only [L64_1, vv, reduceCtorEq, Nat.reduceAdd, Nat.reduceEqDiff, Int.lt_irrefl]
theorem s1000048 (es : List (List Tree)) (hl : es.length ≤ 1073741824) : Runs C 1000048 [.sl 4 es] [.sl 4 es] := by
  refine Runs.of (fun n => e1000048 n _) (Ev.of fun n => ?_)
  by_cases h : es.length = 0
  · have : es = [] := List.eq_nil_of_length_eq_zero h
    subst this
    simp [cnd_eq, both_self]
  · rw [cnd_pos h, cnd_pos hl, List.take_of_length_le (Nat.le_refl _)]

def ValidE (e : Entry) : Prop := 0 ≤ e.ticket ∧ e.ticket ≤ 1152921504606846976 ∧ 0 ≤ e.prio ∧ e.prio ≤ 2 ∧ 0 ≤ e.exp ∧ e.exp ≤ 1099511627776 ∧ 1 ≤ e.size ∧ e.size ≤ 65536
instance (e : Entry) : Decidable (ValidE e) := by unfold ValidE; exact inferInstance
theorem s43 (e : Entry) : Runs C 43 e.enc [.bool (decide (ValidE e))] := by
  refine Runs.of (fun n => e43 n _ _ _ _) (Ev.of fun n => ?_)
  unfold ValidE
  simp only [cnd_eq, decide_eq_true_eq, ge_iff_le]
  grind
theorem s49 (e : Entry) : Runs C 49 e.enc [.bool (decide (ValidE e))] := by
  refine Runs.of (fun n => e49 n _ _ _ _) (Ev.of fun n => ?_)
  unfold ValidE
  simp only [cnd_eq, decide_eq_true_eq, ge_iff_le]
  grind
def ahead (a b : Entry) : Bool := decide (b.prio < a.prio ∨ a.prio = b.prio ∧ (a.exp < b.exp ∨ a.exp = b.exp ∧ a.ticket < b.ticket))
def cmpE (a b : Entry) : Int := (([cmpI b.prio a.prio, cmpI a.exp b.exp, cmpI a.ticket b.ticket] : List Int).find? (· ≠ 0)).getD 0
theorem s46 (a b : Entry) : Runs C 46 (a.enc ++ b.enc) [tI (cmpE a b)] := by
  refine Runs.of (fun n => e46 n _ _ _ _ _ _ _ _) ?_
  refine ((s65 b.prio a.prio).and ((s65 a.exp b.exp).and ((s65 a.ticket b.ticket).and (s64 [cmpI b.prio a.prio, cmpI a.exp b.exp, cmpI a.ticket b.ticket] (by simp))))).mono fun n h => ?_
  obtain ⟨h1, h2, h3, h4⟩ := h
  simp only [List.map_cons, List.map_nil, encI] at h4
  simp only [h1, h2, h3, vv, reduceCtorEq, Nat.reduceAdd, Nat.reduceEqDiff, h4, cmpE]
theorem cmpI_zero (a b : Int) : cmpI a b = 0 ↔ a = b := by
  unfold cmpI
  split
  · omega
  · split <;> omega
theorem cmpI_neg (a b : Int) : cmpI a b < 0 ↔ a < b := by
  unfold cmpI
  split
  · omega
  · split <;> omega
theorem cmpE_neg (a b : Entry) : cmpE a b < 0 ↔ ahead a b = true := by
  have h1 := cmpI_zero b.prio a.prio
  have h2 := cmpI_zero a.exp b.exp
  have h3 := cmpI_zero a.ticket b.ticket
  have k1 := cmpI_neg b.prio a.prio
  have k2 := cmpI_neg a.exp b.exp
  have k3 := cmpI_neg a.ticket b.ticket
  unfold cmpE ahead
  rw [decide_eq_true_eq]
  by_cases e1 : cmpI b.prio a.prio = 0
  · by_cases e2 : cmpI a.exp b.exp = 0
    · by_cases e3 : cmpI a.ticket b.ticket = 0
      · simp [e1, e2, e3]; omega
      · simp [e1, e2, e3]; omega
    · simp [e1, e2]; omega
  · simp [e1]; omega
theorem cmpE_nonneg (a b : Entry) : 0 ≤ cmpE a b ↔ ahead a b = false := by
  have := cmpE_neg a b
  rw [Bool.eq_false_iff, ne_eq, ← this]
  omega
theorem s53 (a b : Entry) : Runs C 53 (a.enc ++ b.enc) [.bool (ahead a b)] := by
  refine Runs.of (fun n => e53 n _ _ _ _ _ _ _ _) (Ev.of fun n => ?_)
  unfold ahead
  simp only [cnd_eq, bne_iff_ne]
  grind
def hasT (l : List Entry) (t : Int) : Bool := l.any fun x => decide (x.ticket = t)
theorem s44 (l : List Entry) (t : Int) (hl : l.length ≤ 1000000) : Runs C 44 [.sl 4 (l.map Entry.enc), tI t] [.bool (hasT l t)] := by
  refine Runs.of (fun n => e44 n _ _) ?_
  have key := loop_overZ (R := List Tree) (Z := List AV × Heap → Option (List Tree)) (B := fun n z p again => L44_1 n (l.map Entry.enc) t z p again) (s := (([.t (tI 0)], []) : List AV × Heap)) l (fun i (_ : Unit) => (([.t (tI i)], []) : List AV × Heap))
    (fun i _ x => if decide (x.ticket = t) = true then .done (i : Int) else .next ()) (fun _ => -1) (fun z (q : Int) => z ([.t (tI q)], [])) (fun _ _ => True) () rfl trivial (find_run0 _ l)
    (fun i s x hx hI => Ev.of fun n z again => ?_) (fun _ _ _ _ _ _ _ => trivial) (fun s hI => Ev.of fun n z again => ?_)
  · refine key.mono fun n h => ?_
    simp only [join_eq, h, J44_2, J44_3, vv, reduceCtorEq, Nat.reduceAdd, Nat.reduceEqDiff]
    have := idx_nonneg (fun x : Entry => decide (x.ticket = t)) l
    unfold hasT
    congr 3
    rw [Bool.eq_iff_iff, decide_eq_true_eq]
    exact this
  · have hi := lt_of_some hx
    simp only [L44_1, vv, reduceCtorEq, Nat.reduceAdd, Nat.reduceEqDiff, hx, Entry.enc, (show (i : Int) < l.length by omega), w64_succ (show i < 4611686018427387904 by omega), beq_iff_eq]
    by_cases h : x.ticket = t <;> simp [h, cnd_eq, Rd.go_next, Rd.go_done]
  · simp only [L44_1, vv, reduceCtorEq, Nat.reduceAdd, Nat.reduceEqDiff, Int.lt_irrefl]
theorem s50 (l : List Entry) (t : Int) (hl : l.length ≤ 1000000) : Runs C 50 [.sl 4 (l.map Entry.enc), tI t] [.bool (hasT l t)] := by
  refine Runs.of (fun n => e50 n _ _) ?_
  refine loop_overQ (fun r => [Tree.bool r]) l (fun i (_ : Unit) => (([.t (tI i)], []) : List AV × Heap)) (fun _ _ x => if decide (x.ticket = t) = true then .done true else .next ()) (fun _ => false) (fun _ _ => True) () rfl trivial (runL_any _ 0 l)
    (fun i s x hx hI => Ev.of fun n again => ?_) (fun _ _ _ _ _ _ _ => trivial) (fun s hI => Ev.of fun n again => ?_)
  · have hi := lt_of_some hx
    simp only [L50_1, vv, reduceCtorEq, Nat.reduceAdd, Nat.reduceEqDiff, hx, Entry.enc, (show (i : Int) < l.length by omega), w64_succ (show i < 4611686018427387904 by omega), beq_iff_eq]
    by_cases h : x.ticket = t <;> simp [h, cnd_eq, Rd.go_next, Rd.go_done]
  · simp only [L50_1, vv, reduceCtorEq, Nat.reduceAdd, Nat.reduceEqDiff, Int.lt_irrefl]

/-! ### Check -/
def chkStep (l : List Entry) (i : Nat) (_ : Unit) (x : Entry) : Rd Unit Int :=
  if ¬ ValidE x then .done 2 else if hasT (l.take i) x.ticket = true then .done 6 else if i ≠ 0 ∧ (l[i - 1]?.map fun y => ahead y x) = some false then .done 9 else .next ()
def checkQ (l : List Entry) : Int := if 64 < l.length then 4 else runL (chkStep l) (fun _ => 0) 0 l ()
theorem s26 (l : List Entry) (hl : l.length ≤ 1000000) : Runs C 26 [.sl 4 (l.map Entry.enc)] [tI (checkQ l)] := by
  refine Runs.of (fun n => e26 n _) ?_
  unfold checkQ
  by_cases h : 64 < l.length
  · rw [if_pos h]
    refine Ev.of fun n => ?_
    simp only [vv, reduceCtorEq, Nat.reduceAdd, Nat.reduceEqDiff, (show (64 : Int) < (l.length : Int) by omega)]
  · rw [if_neg h]
    simp only [vv, reduceCtorEq, Nat.reduceAdd, Nat.reduceEqDiff, (show ¬ (64 : Int) < (l.length : Int) by omega)]
    refine loop_overQ (fun (r : Int) => [tI r]) l (fun i (_ : Unit) => (([.t (tI i)], []) : List AV × Heap)) (chkStep l) (fun _ => 0) (fun _ _ => True) () rfl trivial rfl
      (fun i s x hx hI => ?_) (fun _ _ _ _ _ _ _ => trivial) (fun s hI => Ev.of fun n again => ?_)
    · have hi := lt_of_some hx
      have e1 : List.take i (l.map Entry.enc) = (l.take i).map Entry.enc := by rw [List.map_take]
      by_cases hi0 : i = 0
      · subst hi0
        refine ((s43 x).and (s44 (l.take 0) x.ticket (by simp))).mono fun n h again => ?_
        rw [Entry.enc] at h
        simp only [List.take_zero, List.map_nil] at h
        unfold chkStep
        simp only [L26_1, vv, reduceCtorEq, Nat.reduceAdd, Nat.reduceEqDiff, hx, Entry.enc, List.take_zero, List.map_nil, (show ((0 : Nat) : Int) < l.length by omega), (show ((0 : Nat) : Int) ≤ l.length by omega), h.1, h.2, (show ¬ (0 : Int) < ((0 : Nat) : Int) by omega), w64_succ (show 0 < 4611686018427387904 by omega), e1, Int.toNat_zero, ne_eq, not_true]
        by_cases hv : ValidE x <;> simp [hv, hasT, cnd_eq, Rd.go_done, Rd.go_next]
      · have hp : l[i - 1]? = some l[i - 1] := List.getElem?_eq_getElem (by omega)
        refine ((s43 x).and ((s44 (l.take i) x.ticket (by simp; omega)).and (s46 l[i - 1] x))).mono fun n h again => ?_
        simp only [Entry.enc, List.cons_append, List.nil_append] at h
        unfold chkStep
        simp only [L26_1, vv, reduceCtorEq, Nat.reduceAdd, Nat.reduceEqDiff, hx, hp, Entry.enc, (show (i : Int) < l.length by omega), (show (i : Int) ≤ l.length by omega), e1, h.1, h.2.1, (show (0 : Int) < (i : Int) by omega), w64_pred (show i < 4611686018427387904 by omega) (by omega), h.2.2, w64_succ (show i < 4611686018427387904 by omega), cmpE_nonneg, Bool.not_eq_true', ne_eq, hi0, not_false_eq_true, Option.some.injEq]
        by_cases hv : ValidE x
        · cases hh : hasT (l.take i) x.ticket <;> cases ha : ahead l[i - 1] x <;> simp [hv, cnd_eq, Rd.go_done, Rd.go_next]
        · simp [hv, cnd_eq, Rd.go_done, Rd.go_next]
    · simp only [L26_1, vv, reduceCtorEq, Nat.reduceAdd, Nat.reduceEqDiff, Int.lt_irrefl]
theorem s27 (l : List Entry) (hl : l.length ≤ 1000000) : Runs C 27 [.sl 4 (l.map Entry.enc)] [tI (checkQ l)] := by
  refine Runs.of (fun n => e27 n _) ?_
  unfold checkQ
  by_cases h : 64 < l.length
  · rw [if_pos h]
    refine Ev.of fun n => ?_
    simp only [vv, reduceCtorEq, Nat.reduceAdd, Nat.reduceEqDiff, (show (64 : Int) < (l.length : Int) by omega)]
  · rw [if_neg h]
    simp only [vv, reduceCtorEq, Nat.reduceAdd, Nat.reduceEqDiff, (show ¬ (64 : Int) < (l.length : Int) by omega)]
    refine loop_overQ (fun (r : Int) => [tI r]) l (fun i (_ : Unit) => (([.t (tI i)], []) : List AV × Heap)) (chkStep l) (fun _ => 0) (fun _ _ => True) () rfl trivial rfl
      (fun i s x hx hI => ?_) (fun _ _ _ _ _ _ _ => trivial) (fun s hI => Ev.of fun n again => ?_)
    · have hi := lt_of_some hx
      have e1 : List.take i (l.map Entry.enc) = (l.take i).map Entry.enc := by rw [List.map_take]
      by_cases hi0 : i = 0
      · subst hi0
        refine ((s49 x).and (s50 (l.take 0) x.ticket (by simp))).mono fun n h again => ?_
        rw [Entry.enc] at h
        simp only [List.take_zero, List.map_nil] at h
        unfold chkStep
        simp only [L27_1, vv, reduceCtorEq, Nat.reduceAdd, Nat.reduceEqDiff, hx, Entry.enc, List.take_zero, List.map_nil, (show ((0 : Nat) : Int) < l.length by omega), (show ((0 : Nat) : Int) ≤ l.length by omega), h.1, h.2, (show ¬ (0 : Int) < ((0 : Nat) : Int) by omega), w64_succ (show 0 < 4611686018427387904 by omega), e1, Int.toNat_zero, ne_eq, not_true]
        by_cases hv : ValidE x <;> simp [hv, hasT, cnd_eq, Rd.go_done, Rd.go_next]
      · have hp : l[i - 1]? = some l[i - 1] := List.getElem?_eq_getElem (by omega)
        refine ((s49 x).and ((s50 (l.take i) x.ticket (by simp; omega)).and (s53 l[i - 1] x))).mono fun n h again => ?_
        simp only [Entry.enc, List.cons_append, List.nil_append] at h
        unfold chkStep
        simp only [L27_1, vv, reduceCtorEq, Nat.reduceAdd, Nat.reduceEqDiff, hx, hp, Entry.enc, (show (i : Int) < l.length by omega), (show (i : Int) ≤ l.length by omega), e1, h.1, h.2.1, (show (0 : Int) < (i : Int) by omega), w64_pred (show i < 4611686018427387904 by omega) (by omega), h.2.2, w64_succ (show i < 4611686018427387904 by omega), Bool.not_eq_true', ne_eq, hi0, not_false_eq_true, Option.some.injEq]
        by_cases hv : ValidE x
        · cases hh : hasT (l.take i) x.ticket <;> cases ha : ahead l[i - 1] x <;> simp [hv, cnd_eq, Rd.go_done, Rd.go_next]
        · simp [hv, cnd_eq, Rd.go_done, Rd.go_next]
    · simp only [L27_1, vv, reduceCtorEq, Nat.reduceAdd, Nat.reduceEqDiff, Int.lt_irrefl]
end Ab
