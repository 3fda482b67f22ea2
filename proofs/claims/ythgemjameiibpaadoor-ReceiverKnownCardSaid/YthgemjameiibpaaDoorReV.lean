/- Receiver: the other functions; the example; Hear and Data. -/
import Derived.Test.YthgemjameiibpaaDoorReU
import Derived.Test.YthgemjameiibpaaDoorReY2
set_option linter.unusedVariables false
set_option linter.unusedSimpArgs false
namespace Ab
open Go

def complete (r : Rcv) : Bool := decide (chkR r = 0 ∧ r.known = [⟨0, r.tot⟩])
def dataR (r : Rcv) : ByteArray × Int := if chkR r ≠ 0 then (ByteArray.mk #[], 1) else if complete r = false then (ByteArray.mk #[], 25) else (r.data, 0)
theorem one_span {l : List Span} : l.length = 1 ↔ ∃ x, l = [x] := by
  constructor
  · intro h
    match l, h with
    | [x], _ => exact ⟨x, rfl⟩
  · rintro ⟨x, rfl⟩; rfl
theorem s21 (r : Rcv) : Runs C 21 r.enc [.bool (complete r)] := by
  refine Runs.of (fun n => e21 n _ _ _ _) ?_
  refine (s16 r).mono fun n h => ?_
  simp only [Rcv.enc] at h
  simp only [h, vv, reduceCtorEq, Nat.reduceAdd, Nat.reduceEqDiff]
  unfold complete
  by_cases hr : chkR r = 0
  · simp only [hr, beq_self_eq_true, vv, reduceCtorEq, Nat.reduceAdd, Nat.reduceEqDiff]
    by_cases hl : r.known.length = 1
    · obtain ⟨x, hx⟩ := one_span.1 hl
      simp only [hx, vv, reduceCtorEq, Nat.reduceAdd, Nat.reduceEqDiff, List.getElem?_cons_zero, Span.enc]
      obtain ⟨a, b⟩ := x
      simp only [cnd_eq, List.cons.injEq, and_true, Span.mk.injEq]
      by_cases h1 : a = 0 <;> by_cases h2 : b = r.tot <;> simp [h1, h2]
    · have h1 : ((r.known.length : Int) == 1) = false := by simpa using fun h => hl (by omega)
      have h2 : ¬ r.known = [⟨0, r.tot⟩] := fun h => hl (by rw [h]; rfl)
      simp only [h1, h2, vv, reduceCtorEq, Nat.reduceAdd, Nat.reduceEqDiff]
  · have h1 : (chkR r == 0) = false := by simpa using hr
    simp only [h1, hr, vv, reduceCtorEq, Nat.reduceAdd, Nat.reduceEqDiff]
theorem s22 (r : Rcv) : Runs C 22 r.enc [.bool (complete r)] := by
  refine Runs.of (fun n => e22 n _ _ _ _) ?_
  refine (s17 r).mono fun n h => ?_
  simp only [Rcv.enc] at h
  simp only [h, vv, reduceCtorEq, Nat.reduceAdd, Nat.reduceEqDiff]
  unfold complete
  by_cases hr : chkR r = 0
  · simp only [hr, beq_self_eq_true, vv, reduceCtorEq, Nat.reduceAdd, Nat.reduceEqDiff]
    by_cases hl : r.known.length = 1
    · obtain ⟨x, hx⟩ := one_span.1 hl
      simp only [hx, vv, reduceCtorEq, Nat.reduceAdd, Nat.reduceEqDiff, List.getElem?_cons_zero, Span.enc]
      obtain ⟨a, b⟩ := x
      simp only [cnd_eq, List.cons.injEq, and_true, Span.mk.injEq]
      by_cases h1 : a = 0 <;> by_cases h2 : b = r.tot <;> simp [h1, h2]
    · have h1 : ((r.known.length : Int) == 1) = false := by simpa using fun h => hl (by omega)
      have h2 : ¬ r.known = [⟨0, r.tot⟩] := fun h => hl (by rw [h]; rfl)
      simp only [h1, h2, vv, reduceCtorEq, Nat.reduceAdd, Nat.reduceEqDiff]
  · have h1 : (chkR r == 0) = false := by simpa using hr
    simp only [h1, hr, vv, reduceCtorEq, Nat.reduceAdd, Nat.reduceEqDiff]
theorem s19 (r : Rcv) : Runs C 19 r.enc [.str (dataR r).1, tI (dataR r).2] := by
  refine Runs.of (fun n => e19 n _ _ _ _) ?_
  refine ((s16 r).and (s21 r)).mono fun n h => ?_
  obtain ⟨h, h'⟩ := h
  simp only [Rcv.enc] at h h'
  simp only [h, h', vv, reduceCtorEq, Nat.reduceAdd, Nat.reduceEqDiff]
  unfold dataR
  by_cases hr : chkR r = 0
  · by_cases hc : complete r = true
    · simp [hr, hc, cnd_eq]
    · simp [hr, hc, cnd_eq]
  · simp [hr, cnd_eq, bne]
theorem s20 (r : Rcv) : Runs C 20 r.enc [.str (dataR r).1, tI (dataR r).2] := by
  refine Runs.of (fun n => e20 n _ _ _ _) ?_
  refine ((s17 r).and (s22 r)).mono fun n h => ?_
  obtain ⟨h, h'⟩ := h
  simp only [Rcv.enc] at h h'
  simp only [h, h', vv, reduceCtorEq, Nat.reduceAdd, Nat.reduceEqDiff]
  unfold dataR
  by_cases hr : chkR r = 0
  · by_cases hc : complete r = true
    · simp [hr, hc, cnd_eq]
    · simp [hr, hc, cnd_eq]
  · simp [hr, cnd_eq, bne]
def newR (n : Int) : Rcv × Int := if 0 ≤ n ∧ n ≤ 1099511627776 then (⟨n, -1, [], ByteArray.mk #[]⟩, 0) else (zeroR, 2)
theorem s11 (n : Int) : Runs C 11 [tI n] ((newR n).1.enc ++ [tI (newR n).2]) := by
  refine Runs.of (fun m => e11 m _) (Ev.of fun m => ?_)
  unfold newR
  simp only [cnd_eq, decide_eq_true_eq]
  by_cases h1 : n < 0
  · rw [if_pos h1, if_neg (by omega)]; rfl
  · by_cases h2 : n > 1099511627776
    · rw [if_neg h1, if_pos h2, if_neg (by omega)]; rfl
    · rw [if_neg h1, if_neg h2, if_pos (by omega)]; rfl
theorem s12 (n : Int) : Runs C 12 [tI n] ((newR n).1.enc ++ [tI (newR n).2]) := by
  refine Runs.of (fun m => e12 m _) (Ev.of fun m => ?_)
  unfold newR
  simp only [cnd_eq, decide_eq_true_eq]
  by_cases h1 : n < 0
  · rw [if_pos h1, if_neg (by omega)]; rfl
  · by_cases h2 : n > 1099511627776
    · rw [if_neg h1, if_pos h2, if_neg (by omega)]; rfl
    · rw [if_neg h1, if_neg h2, if_pos (by omega)]; rfl
theorem s15 (a b : Rcv) (ha : a.known.length ≤ 1000000) : Runs C 15 (a.enc ++ b.enc) [.bool (decide (a = b))] := by
  refine Runs.of (fun n => e15 n _ _ _ _ _ _ _ _) ?_
  refine (s45 a.known b.known ha).mono fun n h => ?_
  simp only [h, vv, reduceCtorEq, Nat.reduceAdd, Nat.reduceEqDiff, beq_bytes]
  cases a
  cases b
  simp only [cnd_eq, Rcv.mk.injEq]
  grind
theorem s18 (a b : List Seg) (ha : a.length ≤ 1000000) (hc : ∀ x ∈ a, x.claims.length ≤ 1000000) : Runs C 18 [.sl 8 (a.map Seg.enc), .sl 8 (b.map Seg.enc)] [.bool (decide (a = b))] := by
  refine Runs.of (fun n => e18 n _ _) ?_
  simp only [vv, reduceCtorEq, Nat.reduceAdd, Nat.reduceEqDiff]
  by_cases hl : a.length = b.length
  · simp only [hl, bne_self_eq_false, vv, reduceCtorEq, Nat.reduceAdd, Nat.reduceEqDiff]
    refine loop_overQ (fun r => [Tree.bool r]) a (fun i _ => (([.t (tI i)], []) : List AV × Heap)) (eqStep b) (fun _ => true) (fun _ _ => True) () rfl trivial (eq_run b a 0 (by omega))
      (fun i s x hx hI => ?_) (fun _ _ _ _ _ _ _ => trivial) (fun s hI => Ev.of fun n again => ?_)
    · have hi := lt_of_some hx
      have hb : b[i]? = some b[i] := List.getElem?_eq_getElem (by omega)
      refine (s51 x b[i] (hc x (List.mem_of_getElem? hx))).mono fun n h again => ?_
      simp only [Seg.enc, List.cons_append, List.nil_append] at h
      simp only [L18_1, vv, reduceCtorEq, Nat.reduceAdd, Nat.reduceEqDiff, hx, hb, Seg.enc, h, w64_succ (show i < 4611686018427387904 by omega), (show (i : Int) < b.length by omega), (show (i : Int) < a.length by omega), eqStep, Option.some.injEq]
      generalize hy : b[i] = y
      by_cases he : x = y
      · simp [he, cnd_eq, Rd.go_next]
      · have : ¬ y = x := fun h => he h.symm
        simp [he, this, cnd_eq, Rd.go_done]
    · simp only [L18_1, vv, reduceCtorEq, Nat.reduceAdd, Nat.reduceEqDiff, hl, Int.lt_irrefl]
  · refine Ev.of fun n => ?_
    have : ¬ a = b := fun e => hl (by rw [e])
    rw [cnd_pos (by simp; omega)]
    simp [this]
def greatR (r : Rcv) : Bool := decide (60 < r.known.length ∨ 300 < r.data.size)
theorem s34 (r : Rcv) : Runs C 34 r.enc [.bool (greatR r)] := by
  refine Runs.of (fun n => e34 n _ _ _ _) (Ev.of fun n => ?_)
  simp only [tB_cnd, vv, reduceCtorEq, Nat.reduceAdd, Nat.reduceEqDiff]
  congr 3
  unfold greatR
  rw [Bool.eq_iff_iff, decide_eq_true_eq]
  (repeat' split) <;> simp <;> omega
def greatX (x : Seg) : Bool := greatG x || decide (300 < x.tot ∧ x.tot ≤ 65536)
theorem s36 (x : Seg) : Runs C 36 x.enc [.bool (greatX x)] := by
  refine Runs.of (fun n => e36 n _ _ _ _ _ _ _ _) ((s37 x).mono fun n h => ?_)
  simp only [Seg.enc] at h
  simp only [h, vv, reduceCtorEq, Nat.reduceAdd, Nat.reduceEqDiff]
  unfold greatX
  by_cases h1 : greatG x = true
  · simp [h1, cnd_eq]
  · by_cases h2 : 300 < x.tot <;> simp [h1, h2, cnd_eq]
def great (r : Rcv) (l : List Seg) : Bool := greatR r || (decide (40 < l.length) || l.any greatX)
theorem s9 (r : Rcv) (l : List Seg) : Runs C 9 (r.enc ++ [.sl 8 (l.map Seg.enc)]) [.bool (great r l)] := by
  refine Runs.of (fun n => e9 n _ _ _ _ _) ?_
  simp only [join_eq]
  refine Ev.rw (s34 r) (fun n h => by simp only [Rcv.enc] at h; simp only [h, J9_4, J9_3, vv, reduceCtorEq, Nat.reduceAdd, Nat.reduceEqDiff]; rfl) ?_
  unfold great
  by_cases h1 : greatR r = true
  · simp only [h1, vv, reduceCtorEq, Nat.reduceAdd, Nat.reduceEqDiff, Bool.true_or]
    exact Ev.of fun n => by first | rfl | trivial
  · have h1' : greatR r = false := by simpa using h1
    simp only [h1', vv, reduceCtorEq, Nat.reduceAdd, Nat.reduceEqDiff, Bool.false_or]
    by_cases h2 : 40 < l.length
    · simp only [(show (40 : Int) < (l.length : Int) by omega), h2, vv, reduceCtorEq, Nat.reduceAdd, Nat.reduceEqDiff, Bool.true_or]
      exact Ev.of fun n => by first | rfl | trivial
    · simp only [(show ¬ (40 : Int) < (l.length : Int) by omega), h2, vv, reduceCtorEq, Nat.reduceAdd, Nat.reduceEqDiff, Bool.false_or]
      refine loop_overQ (fun r => [Tree.bool r]) l (fun i _ => (([.t (tI i)], []) : List AV × Heap)) (fun _ (_ : Unit) x => if greatX x = true then .done true else .next ()) (fun _ => false) (fun _ _ => True) () rfl trivial (runL_any greatX 0 l)
        (fun i s x hx hI => ?_) (fun _ _ _ _ _ _ _ => trivial) (fun s hI => Ev.of fun n again => ?_)
      · have hi := lt_of_some hx
        refine (s36 x).mono fun n h again => ?_
        simp only [Seg.enc] at h
        simp only [L9_1, J9_2, vv, reduceCtorEq, Nat.reduceAdd, Nat.reduceEqDiff, hx, Seg.enc, h, w64_succ (show i < 4611686018427387904 by omega), (show (i : Int) < l.length by omega)]
        by_cases hg : greatX x = true <;> simp [hg, cnd_eq, Rd.go_next, Rd.go_done, vv]
      · simp only [L9_1, J9_2, vv, reduceCtorEq, Nat.reduceAdd, Nat.reduceEqDiff, Int.lt_irrefl]
        simp
theorem unionL_eq {a b : List Span} (ha : chkL a = 0) (hb : chkL b = 0) : unionL a b = (if 1000 < (unionR a b).length then [] else unionR a b) ∧ unionE a b = if 1000 < (unionR a b).length then 4 else 0 := by
  have hc : chkL a = 0 ∧ chkL b = 0 := ⟨ha, hb⟩
  have e := uni_eq ((chkL_iff _).1 ha).2.1 ((chkL_iff _).1 hb).2.1
  constructor
  · unfold unionL
    rw [if_pos hc, e]
  · unfold unionE
    rw [if_pos hc, e]
def XA : Seg := ⟨1, 7, 1, 16, 20, true, ByteArray.mk #[119, 120, 121, 122], []⟩
def XB : Seg := ⟨1, 7, 0, 0, 20, false, ByteArray.mk #[48, 49, 50, 51, 52, 53, 54, 55, 56, 57, 97, 98, 99, 100, 101, 102], []⟩
def RA : Rcv := ⟨7, -1, [], ByteArray.mk #[]⟩
def RB : Rcv := ⟨7, 20, [⟨16, 20⟩], ByteArray.mk #[0, 0, 0, 0, 0, 0, 0, 0, 0, 0, 0, 0, 0, 0, 0, 0, 119, 120, 121, 122]⟩
def RC : Rcv := ⟨7, 20, [⟨0, 20⟩], ByteArray.mk #[48, 49, 50, 51, 52, 53, 54, 55, 56, 57, 97, 98, 99, 100, 101, 102, 119, 120, 121, 122]⟩
theorem exUA : unionL [] [⟨16, 20⟩] = [⟨16, 20⟩] ∧ unionE [] [⟨16, 20⟩] = 0 := by
  have h := unionL_eq (a := []) (b := [⟨16, 20⟩]) (by decide) (by decide)
  rw [h.1, h.2]
  decide
theorem exUB : unionL [⟨16, 20⟩] [⟨0, 16⟩] = [⟨0, 20⟩] ∧ unionE [⟨16, 20⟩] [⟨0, 16⟩] = 0 := by
  have h := unionL_eq (a := [⟨16, 20⟩]) (b := [⟨0, 16⟩]) (by decide) (by decide)
  rw [h.1, h.2]
  decide
theorem hearA : hear RA XA = (RB, [⟨2, 7, 1, 0, 20, false, ByteArray.mk #[], [⟨16, 20⟩]⟩], 0) := by
  have hs : suits RA XA = true := by
    refine suits_iff.2 ⟨rfl, rfl, .inl rfl, by decide, ?_⟩
    exact exUA.2
  unfold hear
  rw [if_neg (by decide), if_neg (by rw [hs]; decide), if_pos (show XA.chk = true from rfl)]
  have e : unionL RA.known [sp XA] = [⟨16, 20⟩] := exUA.1
  unfold nextR claimR
  rw [e]
  rfl
theorem hearB : hear RB XB = (RC, [], 0) := by
  have hs : suits RB XB = true := by
    refine suits_iff.2 ⟨rfl, rfl, .inr rfl, by decide, ?_⟩
    exact exUB.2
  unfold hear
  rw [if_neg (by decide), if_neg (by rw [hs]; decide), if_neg (by decide)]
  have e : unionL RB.known [sp XB] = [⟨0, 20⟩] := exUB.1
  unfold nextR
  rw [e]
  rfl
theorem s10 : Runs C 10 [] [.bool true] := by
  refine Runs.of (fun n => e10 n) ?_
  have a := s11 7
  have b := s13 RA XA
  rw [hearA] at b
  have c := s13 RB XB
  rw [hearB] at c
  have d := s19 RC
  have f := s18 [⟨2, 7, 1, 0, 20, false, ByteArray.mk #[], [⟨16, 20⟩]⟩] [⟨2, 7, 1, 0, 20, false, ByteArray.mk #[], [⟨16, 20⟩]⟩] (by decide) (by decide)
  have hd : dataR RC = (RC.data, 0) := by
    unfold dataR
    rw [if_neg (by decide), if_neg (by decide)]
  rw [hd] at d
  have g1 := s21 RA
  have g2 := s21 RB
  have g3 := s21 RC
  rw [show complete RA = false by decide] at g1
  rw [show complete RB = false by decide] at g2
  rw [show complete RC = true by decide] at g3
  have hn : newR 7 = (RA, 0) := rfl
  rw [hn] at a
  refine (a.and (b.and (c.and (d.and (f.and (g1.and (g2.and g3))))))).mono fun n h => ?_
  obtain ⟨h1, h2, h3, h4, h5, h6, h7, h8⟩ := h
  simp only [hearT, RA, RB, RC, XA, XB, Rcv.enc, Seg.enc, Span.enc, List.map_nil, List.map_cons, List.cons_append, List.nil_append] at h1 h2 h3 h4 h5 h6 h7 h8
  simp only [h1, vv, reduceCtorEq, Nat.reduceAdd, Nat.reduceEqDiff]
  simp only [h2, vv, reduceCtorEq, Nat.reduceAdd, Nat.reduceEqDiff]
  simp only [h3, vv, reduceCtorEq, Nat.reduceAdd, Nat.reduceEqDiff]
  simp only [h4, h5, h6, h7, h8, vv, reduceCtorEq, Nat.reduceAdd, Nat.reduceEqDiff]
  simp [cnd_eq, vv, beq_bytes]
end Ab
