/- Sender: small functions, the checks of contacts, sets and segments. -/
import Derived.Test.YtdgkjmcggiihgaaAbVV
import Derived.Test.YtdgkjmcggiihgaaSeY
import Derived.Test.YtdgkjmcggiihgaaAbT2
set_option linter.unusedVariables false
set_option linter.unusedSimpArgs false
namespace Ab
open Go

structure Span where
  fro : Int
  to : Int
  deriving DecidableEq
def Span.enc (e : Span) : List Tree := [tI e.fro, tI e.to]
theorem s30 (a b : List Span) (ha : a.length ≤ 1000000) : Runs C 30 [.sl 2 (a.map Span.enc), .sl 2 (b.map Span.enc)] [.bool (decide (a = b))] := by
  refine Runs.of (fun n => e30 n _ _) ?_
  simp only [vv, reduceCtorEq, Nat.reduceAdd, Nat.reduceEqDiff]
  by_cases hl : a.length = b.length
  · simp only [hl, bne_self_eq_false, vv, reduceCtorEq, Nat.reduceAdd, Nat.reduceEqDiff]
    refine loop_overQ (fun r => [Tree.bool r]) a (fun i _ => (([.t (tI i)], []) : List AV × Heap)) (eqStep b) (fun _ => true) (fun _ _ => True) () rfl trivial (eq_run b a 0 (by omega))
      (fun i s x hx hI => Ev.of fun n again => ?_) (fun _ _ _ _ _ _ _ => trivial) (fun s hI => Ev.of fun n again => ?_)
    · have hi := lt_of_some hx
      have hb : b[i]? = some b[i] := List.getElem?_eq_getElem (by omega)
      simp only [L30_1, vv, reduceCtorEq, Nat.reduceAdd, Nat.reduceEqDiff, hx, hb, Span.enc, w64_succ (show i < 4611686018427387904 by omega), (show (i : Int) < b.length by omega), eqStep, Option.some.injEq]
      cases x with | mk x0 x1 =>
      cases b[i] with | mk y0 y1 =>
      simp only [cnd_eq, Span.mk.injEq]
      grind [Rd.go_next, Rd.go_done]
    · simp only [L30_1, vv, reduceCtorEq, Nat.reduceAdd, Nat.reduceEqDiff, hl, Int.lt_irrefl]
  · refine Ev.of fun n => ?_
    have : ¬ a = b := fun e => hl (by rw [e])
    rw [cnd_pos (by simp; omega)]
    simp [this]
theorem s41 (a b : List Span) (ha : a.length ≤ 1000000) : Runs C 41 [.sl 2 (a.map Span.enc), .sl 2 (b.map Span.enc)] [.bool (decide (a = b))] := by
  refine Runs.of (fun n => e41 n _ _) ?_
  simp only [vv, reduceCtorEq, Nat.reduceAdd, Nat.reduceEqDiff]
  by_cases hl : a.length = b.length
  · simp only [hl, bne_self_eq_false, vv, reduceCtorEq, Nat.reduceAdd, Nat.reduceEqDiff]
    refine loop_overQ (fun r => [Tree.bool r]) a (fun i _ => (([.t (tI i)], []) : List AV × Heap)) (eqStep b) (fun _ => true) (fun _ _ => True) () rfl trivial (eq_run b a 0 (by omega))
      (fun i s x hx hI => Ev.of fun n again => ?_) (fun _ _ _ _ _ _ _ => trivial) (fun s hI => Ev.of fun n again => ?_)
    · have hi := lt_of_some hx
      have hb : b[i]? = some b[i] := List.getElem?_eq_getElem (by omega)
      simp only [L41_1, vv, reduceCtorEq, Nat.reduceAdd, Nat.reduceEqDiff, hx, hb, Span.enc, w64_succ (show i < 4611686018427387904 by omega), (show (i : Int) < b.length by omega), eqStep, Option.some.injEq]
      cases x with | mk x0 x1 =>
      cases b[i] with | mk y0 y1 =>
      simp only [cnd_eq, Span.mk.injEq]
      grind [Rd.go_next, Rd.go_done]
    · simp only [L41_1, vv, reduceCtorEq, Nat.reduceAdd, Nat.reduceEqDiff, hl, Int.lt_irrefl]
  · refine Ev.of fun n => ?_
    have : ¬ a = b := fun e => hl (by rw [e])
    rw [cnd_pos (by simp; omega)]
    simp [this]
theorem s53 (a b : List Span) (ha : a.length ≤ 1000000) : Runs C 53 [.sl 2 (a.map Span.enc), .sl 2 (b.map Span.enc)] [.bool (decide (a = b))] := by
  refine Runs.of (fun n => e53 n _ _) ?_
  simp only [vv, reduceCtorEq, Nat.reduceAdd, Nat.reduceEqDiff]
  by_cases hl : a.length = b.length
  · simp only [hl, bne_self_eq_false, vv, reduceCtorEq, Nat.reduceAdd, Nat.reduceEqDiff]
    refine loop_overQ (fun r => [Tree.bool r]) a (fun i _ => (([.t (tI i)], []) : List AV × Heap)) (eqStep b) (fun _ => true) (fun _ _ => True) () rfl trivial (eq_run b a 0 (by omega))
      (fun i s x hx hI => Ev.of fun n again => ?_) (fun _ _ _ _ _ _ _ => trivial) (fun s hI => Ev.of fun n again => ?_)
    · have hi := lt_of_some hx
      have hb : b[i]? = some b[i] := List.getElem?_eq_getElem (by omega)
      simp only [L53_1, vv, reduceCtorEq, Nat.reduceAdd, Nat.reduceEqDiff, hx, hb, Span.enc, w64_succ (show i < 4611686018427387904 by omega), (show (i : Int) < b.length by omega), eqStep, Option.some.injEq]
      cases x with | mk x0 x1 =>
      cases b[i] with | mk y0 y1 =>
      simp only [cnd_eq, Span.mk.injEq]
      grind [Rd.go_next, Rd.go_done]
    · simp only [L53_1, vv, reduceCtorEq, Nat.reduceAdd, Nat.reduceEqDiff, hl, Int.lt_irrefl]
  · refine Ev.of fun n => ?_
    have : ¬ a = b := fun e => hl (by rw [e])
    rw [cnd_pos (by simp; omega)]
    simp [this]

structure Con where
  frm : Int
  dst : Int
  start : Int
  fin : Int
  rate : Int
  rng : Int
  loss : Int
  deriving DecidableEq
structure Seg where
  kind : Int
  ses : Int
  ser : Int
  off : Int
  tot : Int
  chk : Bool
  data : ByteArray
  claims : List Span
  deriving DecidableEq
structure Snd where
  c : Con
  ses : Int
  data : ByteArray
  fin : Int
  busy : Int
  ser : Int
  acked : List Span
  due : Int
  st : Int
  deriving DecidableEq
structure Out where
  at_ : Int
  seg : Seg
  deriving DecidableEq
def encS (l : List Span) : Tree := .sl 2 (l.map Span.enc)
def Con.enc (c : Con) : List Tree := [tI c.frm, tI c.dst, tI c.start, tI c.fin, tI c.rate, tI c.rng, tI c.loss]
def Seg.enc (x : Seg) : List Tree := [tI x.kind, tI x.ses, tI x.ser, tI x.off, tI x.tot, .bool x.chk, .str x.data, .sl 2 (x.claims.map Span.enc)]
def Snd.enc (s : Snd) : List Tree := [tI s.c.frm, tI s.c.dst, tI s.c.start, tI s.c.fin, tI s.c.rate, tI s.c.rng, tI s.c.loss, tI s.ses, .str s.data, tI s.fin, tI s.busy, tI s.ser, .sl 2 (s.acked.map Span.enc), tI s.due, tI s.st]
def Out.enc (x : Out) : List Tree := [tI x.at_, tI x.seg.kind, tI x.seg.ses, tI x.seg.ser, tI x.seg.off, tI x.seg.tot, .bool x.seg.chk, .str x.seg.data, .sl 2 (x.seg.claims.map Span.enc)]

def wi (n a b : Int) : Bool := decide (a ≤ n ∧ n ≤ b)
theorem within_ok (n a b : Int) : (if decide (n ≥ a) = true then some [Tree.bool (decide (n ≤ b))] else some [Tree.bool false]) = some [Tree.bool (wi n a b)] := by
  unfold wi
  by_cases h : a ≤ n <;> simp [h]
theorem s35 (n a b : Int) : Runs C 35 [tI n, tI a, tI b] [.bool (wi n a b)] := Runs.of (fun m => e35 m _ _ _) (Ev.of fun m => by rw [cnd_eq]; exact within_ok n a b)
theorem s49 (n a b : Int) : Runs C 49 [tI n, tI a, tI b] [.bool (wi n a b)] := Runs.of (fun m => e49 m _ _ _) (Ev.of fun m => by rw [cnd_eq]; exact within_ok n a b)
theorem s59 (n a b : Int) : Runs C 59 [tI n, tI a, tI b] [.bool (wi n a b)] := Runs.of (fun m => e59 m _ _ _) (Ev.of fun m => by rw [cnd_eq]; exact within_ok n a b)
theorem s63 (n a b : Int) : Runs C 63 [tI n, tI a, tI b] [.bool (wi n a b)] := Runs.of (fun m => e63 m _ _ _) (Ev.of fun m => by rw [cnd_eq]; exact within_ok n a b)

/-! ### contacts -/
def ConOk (c : Con) : Prop := 0 ≤ c.frm ∧ c.frm ≤ 15 ∧ 0 ≤ c.dst ∧ c.dst ≤ 15 ∧ 1 ≤ c.rate ∧ c.rate ≤ 1000 ∧ 1 ≤ c.rng ∧ c.rng ≤ 1048576 ∧ 0 ≤ c.loss ∧ c.loss ≤ 16
instance (c : Con) : Decidable (ConOk c) := by unfold ConOk; exact inferInstance
def chkC (c : Con) : Int := if ¬ ConOk c then 2 else if c.frm = c.dst then 1 else if c.start < 0 ∨ c.start ≥ c.fin ∨ c.fin > 1099511627776 - 2 * c.rng then 2 else 0
theorem s34 (c : Con) : Runs C 34 c.enc [tI (chkC c)] := by
  refine Runs.of (fun n => e34 n _ _ _ _ _ _ _) ?_
  refine ((s59 c.frm 0 15).and ((s59 c.dst 0 15).and ((s59 c.rate 1 1000).and ((s59 c.rng 1 1048576).and (s59 c.loss 0 16))))).mono fun n h => ?_
  obtain ⟨h1, h2, h3, h4, h5⟩ := h
  simp only [h1, h2, h3, h4, h5, vv, reduceCtorEq, Nat.reduceAdd, Nat.reduceEqDiff, J34_1, chkC, ConOk, wi]
  by_cases hr : 1 ≤ c.rng ∧ c.rng ≤ 1048576
  · rw [w64_id (x := 2 * c.rng) (by omega) (by omega), w64_id (by omega) (by omega)]
    simp only [cnd_eq, beq_iff_eq, Bool.not_eq_true', decide_eq_false_iff_not]
    (repeat' split) <;> first | rfl | (exfalso; omega)
  · simp only [cnd_eq, beq_iff_eq, Bool.not_eq_true', decide_eq_false_iff_not]
    (repeat' split) <;> first | rfl | (exfalso; omega)
theorem s38 (c : Con) : Runs C 38 c.enc [tI (chkC c)] := by
  refine Runs.of (fun n => e38 n _ _ _ _ _ _ _) (Ev.of fun n => ?_)
  simp only [vv, reduceCtorEq, Nat.reduceAdd, Nat.reduceEqDiff, J38_1, chkC, ConOk]
  by_cases hr : 1 ≤ c.rng ∧ c.rng ≤ 1048576
  · rw [w64_id (x := 2 * c.rng) (by omega) (by omega), w64_id (by omega) (by omega)]
    simp only [cnd_eq, beq_iff_eq, decide_eq_true_eq]
    grind (splits := 30)
  · simp only [cnd_eq, beq_iff_eq, decide_eq_true_eq]
    grind (splits := 30)
/-! ### sets -/
def Valid (x : Span) : Prop := x.fro < x.to ∧ -1152921504606846976 ≤ x.fro ∧ x.to ≤ 1152921504606846976
instance (x : Span) : Decidable (Valid x) := by unfold Valid; exact inferInstance
theorem s84 (x : Span) : Runs C 84 x.enc [.bool (decide (Valid x))] := by
  refine Runs.of (fun n => e84 n _ _) (Ev.of fun n => ?_)
  unfold Valid
  simp only [cnd_eq, decide_eq_true_eq, ge_iff_le]
  grind
theorem s97 (x : Span) : Runs C 97 x.enc [.bool (decide (Valid x))] := by
  refine Runs.of (fun n => e97 n _ _) (Ev.of fun n => ?_)
  unfold Valid
  simp only [cnd_eq, decide_eq_true_eq, ge_iff_le]
  grind
def chkStep (l : List Span) (i : Nat) (_ : Unit) (x : Span) : Rd Unit Int :=
  if ¬ Valid x then .done 2 else if i ≠ 0 ∧ (l[i - 1]?.map fun y => decide (x.fro ≤ y.to)) = some true then .done 9 else .next ()
def chkL (l : List Span) : Int := if 1000 < l.length then 4 else runL (chkStep l) (fun _ => 0) 0 l ()
theorem s55 (l : List Span) : Runs C 55 [.sl 2 (l.map Span.enc)] [tI (chkL l)] := by
  refine Runs.of (fun n => e55 n _) ?_
  unfold chkL
  by_cases h : 1000 < l.length
  · rw [if_pos h]
    refine Ev.of fun n => ?_
    simp only [vv, reduceCtorEq, Nat.reduceAdd, Nat.reduceEqDiff, (show (1000 : Int) < (l.length : Int) by omega)]
  · rw [if_neg h]
    simp only [vv, reduceCtorEq, Nat.reduceAdd, Nat.reduceEqDiff, (show ¬ (1000 : Int) < (l.length : Int) by omega)]
    refine loop_overQ (fun (r : Int) => [tI r]) l (fun i (_ : Unit) => (([.t (tI i)], []) : List AV × Heap)) (chkStep l) (fun _ => 0) (fun _ _ => True) () rfl trivial rfl
      (fun i s x hx hI => ?_) (fun _ _ _ _ _ _ _ => trivial) (fun s hI => Ev.of fun n again => ?_)
    · have hi := lt_of_some hx
      refine (s84 x).mono fun n h again => ?_
      simp only [Span.enc] at h
      simp only [L55_1, vv, reduceCtorEq, Nat.reduceAdd, Nat.reduceEqDiff, hx, Span.enc, (show (i : Int) < l.length by omega), w64_succ (show i < 4611686018427387904 by omega), h, chkStep]
      by_cases hv : Valid x
      · simp only [hv, vv, reduceCtorEq, Nat.reduceAdd, Nat.reduceEqDiff, not_true_eq_false]
        by_cases hi0 : i = 0
        · subst hi0
          simp [cnd_eq, Rd.go_next]
        · obtain ⟨y, hy⟩ : ∃ y, l[i - 1]? = some y := ⟨l[i - 1], List.getElem?_eq_getElem (by omega)⟩
          rw [w64_id (x := (i : Int) - 1) (by omega) (by omega)]
          simp only [(show ((i : Int) - 1).toNat = i - 1 by omega), hy, vv, reduceCtorEq, Nat.reduceAdd, Nat.reduceEqDiff, (show (0 : Int) < i by omega), (show (0 : Int) ≤ (i : Int) - 1 by omega), hi0, ne_eq, not_false_eq_true, Option.some.injEq]
          simp only [Span.enc, vv, reduceCtorEq, Nat.reduceAdd, Nat.reduceEqDiff]
          by_cases hq : x.fro ≤ y.to <;> simp [hq, cnd_eq, Rd.go_next, Rd.go_done]
      · simp [hv, cnd_eq, Rd.go_done]
    · simp only [L55_1, vv, reduceCtorEq, Nat.reduceAdd, Nat.reduceEqDiff, Int.lt_irrefl]
theorem s75 (l : List Span) : Runs C 75 [.sl 2 (l.map Span.enc)] [tI (chkL l)] := by
  refine Runs.of (fun n => e75 n _) ?_
  unfold chkL
  by_cases h : 1000 < l.length
  · rw [if_pos h]
    refine Ev.of fun n => ?_
    simp only [vv, reduceCtorEq, Nat.reduceAdd, Nat.reduceEqDiff, (show (1000 : Int) < (l.length : Int) by omega)]
  · rw [if_neg h]
    simp only [vv, reduceCtorEq, Nat.reduceAdd, Nat.reduceEqDiff, (show ¬ (1000 : Int) < (l.length : Int) by omega)]
    refine loop_overQ (fun (r : Int) => [tI r]) l (fun i (_ : Unit) => (([.t (tI i)], []) : List AV × Heap)) (chkStep l) (fun _ => 0) (fun _ _ => True) () rfl trivial rfl
      (fun i s x hx hI => ?_) (fun _ _ _ _ _ _ _ => trivial) (fun s hI => Ev.of fun n again => ?_)
    · have hi := lt_of_some hx
      refine (s97 x).mono fun n h again => ?_
      simp only [Span.enc] at h
      simp only [L75_1, vv, reduceCtorEq, Nat.reduceAdd, Nat.reduceEqDiff, hx, Span.enc, (show (i : Int) < l.length by omega), w64_succ (show i < 4611686018427387904 by omega), h, chkStep]
      by_cases hv : Valid x
      · simp only [hv, vv, reduceCtorEq, Nat.reduceAdd, Nat.reduceEqDiff, not_true_eq_false]
        by_cases hi0 : i = 0
        · subst hi0
          simp [cnd_eq, Rd.go_next]
        · obtain ⟨y, hy⟩ : ∃ y, l[i - 1]? = some y := ⟨l[i - 1], List.getElem?_eq_getElem (by omega)⟩
          rw [w64_id (x := (i : Int) - 1) (by omega) (by omega)]
          simp only [(show ((i : Int) - 1).toNat = i - 1 by omega), hy, vv, reduceCtorEq, Nat.reduceAdd, Nat.reduceEqDiff, (show (0 : Int) < i by omega), (show (0 : Int) ≤ (i : Int) - 1 by omega), hi0, ne_eq, not_false_eq_true, Option.some.injEq]
          simp only [Span.enc, vv, reduceCtorEq, Nat.reduceAdd, Nat.reduceEqDiff]
          by_cases hq : x.fro ≤ y.to <;> simp [hq, cnd_eq, Rd.go_next, Rd.go_done]
      · simp [hv, cnd_eq, Rd.go_done]
    · simp only [L75_1, vv, reduceCtorEq, Nat.reduceAdd, Nat.reduceEqDiff, Int.lt_irrefl]
end Ab
