/- Receiver: small functions, the checks of contacts, sets and segments. -/
import Derived.Test.YthgemjameiibpaaDoorAbVV
import Derived.Test.YthgemjameiibpaaDoorReY
import Derived.Test.YthgemjameiibpaaDoorAbT2
set_option linter.unusedVariables false
set_option linter.unusedSimpArgs false
namespace Ab
open Go

structure Span where
  fro : Int
  to : Int
  deriving DecidableEq
def Span.enc (e : Span) : List Tree := [tI e.fro, tI e.to]
theorem s45 (a b : List Span) (ha : a.length ≤ 1000000) : Runs C 45 [.sl 2 (a.map Span.enc), .sl 2 (b.map Span.enc)] [.bool (decide (a = b))] := by
  refine Runs.of (fun n => e45 n _ _) ?_
  simp only [vv, reduceCtorEq, Nat.reduceAdd, Nat.reduceEqDiff]
  by_cases hl : a.length = b.length
  · simp only [hl, bne_self_eq_false, vv, reduceCtorEq, Nat.reduceAdd, Nat.reduceEqDiff]
    refine loop_overQ (fun r => [Tree.bool r]) a (fun i _ => (([.t (tI i)], []) : List AV × Heap)) (eqStep b) (fun _ => true) (fun _ _ => True) () rfl trivial (eq_run b a 0 (by omega))
      (fun i s x hx hI => Ev.of fun n again => ?_) (fun _ _ _ _ _ _ _ => trivial) (fun s hI => Ev.of fun n again => ?_)
    · have hi := lt_of_some hx
      have hb : b[i]? = some b[i] := List.getElem?_eq_getElem (by omega)
      simp only [L45_1, vv, reduceCtorEq, Nat.reduceAdd, Nat.reduceEqDiff, hx, hb, Span.enc, w64_succ (show i < 4611686018427387904 by omega), (show (i : Int) < b.length by omega), eqStep, Option.some.injEq]
      cases x with | mk x0 x1 =>
      cases b[i] with | mk y0 y1 =>
      simp only [cnd_eq, Span.mk.injEq]
      grind [Rd.go_next, Rd.go_done]
    · simp only [L45_1, vv, reduceCtorEq, Nat.reduceAdd, Nat.reduceEqDiff, hl, Int.lt_irrefl]
  · refine Ev.of fun n => ?_
    have : ¬ a = b := fun e => hl (by rw [e])
    rw [cnd_pos (by simp; omega)]
    simp [this]

structure Seg where
  kind : Int
  ses : Int
  ser : Int
  off : Int
  tot : Int
  chk : Bool
  data : ByteArray
  claims : List Span
  deriving DecidableEq
structure Rcv where
  ses : Int
  tot : Int
  known : List Span
  data : ByteArray
  deriving DecidableEq
def Rcv.enc (r : Rcv) : List Tree := [tI r.ses, tI r.tot, .sl 2 (r.known.map Span.enc), .str r.data]
def encS (l : List Span) : Tree := .sl 2 (l.map Span.enc)
def Seg.enc (x : Seg) : List Tree := [tI x.kind, tI x.ses, tI x.ser, tI x.off, tI x.tot, .bool x.chk, .str x.data, .sl 2 (x.claims.map Span.enc)]
def wi (n a b : Int) : Bool := decide (a ≤ n ∧ n ≤ b)
theorem within_ok (n a b : Int) : (if decide (n ≥ a) = true then some [Tree.bool (decide (n ≤ b))] else some [Tree.bool false]) = some [Tree.bool (wi n a b)] := by
  unfold wi
  by_cases h : a ≤ n <;> simp [h]
theorem s57 (n a b : Int) : Runs C 57 [tI n, tI a, tI b] [.bool (wi n a b)] := Runs.of (fun m => e57 m _ _ _) (Ev.of fun m => by rw [cnd_eq]; exact within_ok n a b)
theorem s53 (n a b : Int) : Runs C 53 [tI n, tI a, tI b] [.bool (wi n a b)] := Runs.of (fun m => e53 m _ _ _) (Ev.of fun m => by rw [cnd_eq]; exact within_ok n a b)

/-! ### contacts -/
/-! ### sets -/
def Valid (x : Span) : Prop := x.fro < x.to ∧ -1152921504606846976 ≤ x.fro ∧ x.to ≤ 1152921504606846976
instance (x : Span) : Decidable (Valid x) := by unfold Valid; exact inferInstance
theorem s93 (x : Span) : Runs C 93 x.enc [.bool (decide (Valid x))] := by
  refine Runs.of (fun n => e93 n _ _) (Ev.of fun n => ?_)
  unfold Valid
  simp only [cnd_eq, decide_eq_true_eq, ge_iff_le]
  grind
theorem s70 (x : Span) : Runs C 70 x.enc [.bool (decide (Valid x))] := by
  refine Runs.of (fun n => e70 n _ _) (Ev.of fun n => ?_)
  unfold Valid
  simp only [cnd_eq, decide_eq_true_eq, ge_iff_le]
  grind
def chkStep (l : List Span) (i : Nat) (_ : Unit) (x : Span) : Rd Unit Int :=
  if ¬ Valid x then .done 2 else if i ≠ 0 ∧ (l[i - 1]?.map fun y => decide (x.fro ≤ y.to)) = some true then .done 9 else .next ()
def chkL (l : List Span) : Int := if 1000 < l.length then 4 else runL (chkStep l) (fun _ => 0) 0 l ()
theorem s78 (l : List Span) : Runs C 78 [.sl 2 (l.map Span.enc)] [tI (chkL l)] := by
  refine Runs.of (fun n => e78 n _) ?_
  unfold chkL
  by_cases h : 1000 < l.length
  · rw [if_pos h]
    refine Ev.of fun n => ?_
    simp only [vv, reduceCtorEq, Nat.reduceAdd, Nat.reduceEqDiff, (show (1000 : Int) < (l.length : Int) by omega)]
  · rw [if_neg h]
    simp only [vv, reduceCtorEq, Nat.reduceAdd, Nat.reduceEqDiff, (show ¬ (1000 : Int) < (l.length : Int) by omega)]
    refine loop_overQ (fun (r : Int) => [tI r]) l (fun i (_ : Unit) => (([.t (tI i)], []) : List AV × Heap)) (chkStep l) (fun _ => 0) (fun _ _ => True) () rfl trivial rfl
      (fun i s x hx hI => ?_) (fun _ _ _ _ _ _ _ => trivial) (fun s hI => Ev.of fun n again => ?_)
    · have hi := lt_of_some hx
      refine (s93 x).mono fun n h again => ?_
      simp only [Span.enc] at h
      simp only [L78_1, vv, reduceCtorEq, Nat.reduceAdd, Nat.reduceEqDiff, hx, Span.enc, (show (i : Int) < l.length by omega), w64_succ (show i < 4611686018427387904 by omega), h, chkStep]
      by_cases hv : Valid x
      · simp only [hv, vv, reduceCtorEq, Nat.reduceAdd, Nat.reduceEqDiff, not_true_eq_false]
        by_cases hi0 : i = 0
        · subst hi0
          simp [cnd_eq, Rd.go_next]
        · obtain ⟨y, hy⟩ : ∃ y, l[i - 1]? = some y := ⟨l[i - 1], List.getElem?_eq_getElem (by omega)⟩
          rw [w64_id (x := (i : Int) - 1) (by omega) (by omega)]
          simp only [(show ((i : Int) - 1).toNat = i - 1 by omega), hy, vv, reduceCtorEq, Nat.reduceAdd, Nat.reduceEqDiff, (show (0 : Int) < i by omega), (show (0 : Int) ≤ (i : Int) - 1 by omega), hi0, ne_eq, not_false_eq_true, Option.some.injEq]
          simp only [Span.enc, vv, reduceCtorEq, Nat.reduceAdd, Nat.reduceEqDiff]
          by_cases hq : x.fro ≤ y.to <;> simp [hq, cnd_eq, Rd.go_next, Rd.go_done]
      · simp [hv, cnd_eq, Rd.go_done]
    · simp only [L78_1, vv, reduceCtorEq, Nat.reduceAdd, Nat.reduceEqDiff, Int.lt_irrefl]
theorem s46 (l : List Span) : Runs C 46 [.sl 2 (l.map Span.enc)] [tI (chkL l)] := by
  refine Runs.of (fun n => e46 n _) ?_
  unfold chkL
  by_cases h : 1000 < l.length
  · rw [if_pos h]
    refine Ev.of fun n => ?_
    simp only [vv, reduceCtorEq, Nat.reduceAdd, Nat.reduceEqDiff, (show (1000 : Int) < (l.length : Int) by omega)]
  · rw [if_neg h]
    simp only [vv, reduceCtorEq, Nat.reduceAdd, Nat.reduceEqDiff, (show ¬ (1000 : Int) < (l.length : Int) by omega)]
    refine loop_overQ (fun (r : Int) => [tI r]) l (fun i (_ : Unit) => (([.t (tI i)], []) : List AV × Heap)) (chkStep l) (fun _ => 0) (fun _ _ => True) () rfl trivial rfl
      (fun i s x hx hI => ?_) (fun _ _ _ _ _ _ _ => trivial) (fun s hI => Ev.of fun n again => ?_)
    · have hi := lt_of_some hx
      refine (s70 x).mono fun n h again => ?_
      simp only [Span.enc] at h
      simp only [L46_1, vv, reduceCtorEq, Nat.reduceAdd, Nat.reduceEqDiff, hx, Span.enc, (show (i : Int) < l.length by omega), w64_succ (show i < 4611686018427387904 by omega), h, chkStep]
      by_cases hv : Valid x
      · simp only [hv, vv, reduceCtorEq, Nat.reduceAdd, Nat.reduceEqDiff, not_true_eq_false]
        by_cases hi0 : i = 0
        · subst hi0
          simp [cnd_eq, Rd.go_next]
        · obtain ⟨y, hy⟩ : ∃ y, l[i - 1]? = some y := ⟨l[i - 1], List.getElem?_eq_getElem (by omega)⟩
          rw [w64_id (x := (i : Int) - 1) (by omega) (by omega)]
          simp only [(show ((i : Int) - 1).toNat = i - 1 by omega), hy, vv, reduceCtorEq, Nat.reduceAdd, Nat.reduceEqDiff, (show (0 : Int) < i by omega), (show (0 : Int) ≤ (i : Int) - 1 by omega), hi0, ne_eq, not_false_eq_true, Option.some.injEq]
          simp only [Span.enc, vv, reduceCtorEq, Nat.reduceAdd, Nat.reduceEqDiff]
          by_cases hq : x.fro ≤ y.to <;> simp [hq, cnd_eq, Rd.go_next, Rd.go_done]
      · simp [hv, cnd_eq, Rd.go_done]
    · simp only [L46_1, vv, reduceCtorEq, Nat.reduceAdd, Nat.reduceEqDiff, Int.lt_irrefl]
end Ab
