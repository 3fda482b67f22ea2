/- Parts of the proof: see the last text. -/
import Derived.Test.YthgemjameiibpaaDoorReA
set_option linter.unusedVariables false
set_option linter.unusedSimpArgs false
namespace Ab
open Go

def lastTo (l : List Span) : Int := match l.getLast? with
  | some x => x.to
  | none => 0
def headFro (l : List Span) : Int := match l.head? with
  | some x => x.fro
  | none => 0
def inside (l : List Span) (t : Int) : Bool := decide (chkL l = 0 ∧ (l = [] ∨ 0 ≤ headFro l ∧ lastTo l ≤ t))
theorem head_at {l : List Span} (h : l ≠ []) : l[0]? = some (l.head h) ∧ headFro l = (l.head h).fro := by
  cases l with
  | nil => exact (h rfl).elim
  | cons x l => exact ⟨rfl, rfl⟩
theorem last_at {l : List Span} (h : l ≠ []) : l[l.length - 1]? = some (l.getLast h) ∧ lastTo l = (l.getLast h).to := by
  refine ⟨?_, ?_⟩
  · rw [← List.getLast?_eq_getElem?, List.getLast?_eq_some_getLast h]
  · unfold lastTo
    rw [List.getLast?_eq_some_getLast h]
theorem chkL_len {l : List Span} (h : chkL l = 0) : l.length ≤ 1000 := by
  unfold chkL at h
  split at h
  · cases h
  · omega
theorem s58 (l : List Span) (t : Int) : Runs C 58 [.sl 2 (l.map Span.enc), tI t] [.bool (inside l t)] := by
  refine Runs.of (fun n => e58 n _ _) ?_
  refine (s46 l).mono fun n h => ?_
  simp only [h, vv, reduceCtorEq, Nat.reduceAdd, Nat.reduceEqDiff, inside]
  by_cases hc : chkL l = 0
  · by_cases hl : l = []
    · subst hl
      simp [hc, cnd_eq]
    · obtain ⟨g1, g2⟩ := head_at hl
      obtain ⟨g3, g4⟩ := last_at hl
      have hp := List.length_pos_iff.2 hl
      have hm := chkL_len hc
      rw [w64_id (x := (l.length : Int) - 1) (by omega) (by omega)]
      simp only [hc, beq_self_eq_true, vv, reduceCtorEq, Nat.reduceAdd, Nat.reduceEqDiff, (show ¬ ((l.length : Int) = 0) by omega), (show ¬ (l.length = 0) by omega), g1, g2, g4, (show ((l.length : Int) - 1).toNat = l.length - 1 by omega), g3, Span.enc, (show (0 : Int) ≤ (l.length : Int) - 1 by omega), hl, beq_iff_eq]
      by_cases hq : 0 ≤ (l.head hl).fro <;> simp [hq, cnd_eq]
  · simp [hc, cnd_eq]
theorem s79 (l : List Span) (t : Int) : Runs C 79 [.sl 2 (l.map Span.enc), tI t] [.bool (inside l t)] := by
  refine Runs.of (fun n => e79 n _ _) ?_
  refine (s78 l).mono fun n h => ?_
  simp only [h, vv, reduceCtorEq, Nat.reduceAdd, Nat.reduceEqDiff, inside]
  by_cases hc : chkL l = 0
  · by_cases hl : l = []
    · subst hl
      simp [hc, cnd_eq]
    · obtain ⟨g1, g2⟩ := head_at hl
      obtain ⟨g3, g4⟩ := last_at hl
      have hp := List.length_pos_iff.2 hl
      have hm := chkL_len hc
      rw [w64_id (x := (l.length : Int) - 1) (by omega) (by omega)]
      simp only [hc, bne_self_eq_false, vv, reduceCtorEq, Nat.reduceAdd, Nat.reduceEqDiff, (show ¬ ((l.length : Int) = 0) by omega), (show ¬ (l.length = 0) by omega), g1, g2, g4, (show ((l.length : Int) - 1).toNat = l.length - 1 by omega), g3, Span.enc, (show (0 : Int) ≤ (l.length : Int) - 1 by omega), hl, beq_iff_eq]
      by_cases hq : 0 ≤ (l.head hl).fro <;> simp [hq, cnd_eq]
  · simp [hc, cnd_eq]
/-! ### segments -/
def SegNum (x : Seg) : Prop := (0 ≤ x.ses ∧ x.ses ≤ 1099511627776) ∧ (x.kind = 3 → x.ser = 0 ∧ x.off = 0 ∧ x.tot = 0) ∧ (x.kind = 2 → (1 ≤ x.tot ∧ x.tot ≤ 65536) ∧ (1 ≤ x.ser ∧ x.ser ≤ 1099511627776) ∧ x.off = 0) ∧
  (x.kind = 1 → (1 ≤ x.tot ∧ x.tot ≤ 65536) ∧ (0 ≤ x.off ∧ x.off ≤ x.tot - 1) ∧ (x.chk = true → 1 ≤ x.ser ∧ x.ser ≤ 1099511627776) ∧ (x.chk = false → x.ser = 0))
def SegCon (x : Seg) : Prop := (x.kind = 3 → x.chk = false ∧ x.data.size = 0 ∧ x.claims = []) ∧ (x.kind = 2 → x.chk = false ∧ x.data.size = 0 ∧ inside x.claims x.tot = true) ∧
  (x.kind = 1 → (1 ≤ x.data.size ∧ x.data.size ≤ 16) ∧ (x.data.size : Int) ≤ x.tot - x.off ∧ x.claims = [])
instance (x : Seg) : Decidable (SegNum x) := by unfold SegNum; exact inferInstance
instance (x : Seg) : Decidable (SegCon x) := by unfold SegCon; exact inferInstance
def chkG (x : Seg) : Int := if ¬ (1 ≤ x.kind ∧ x.kind ≤ 3) then 8 else if ¬ SegNum x then 2 else if ¬ SegCon x then 1 else 0
theorem beq_bytes (a b : ByteArray) : (a == b) = decide (a = b) := by
  obtain ⟨a⟩ := a
  obtain ⟨b⟩ := b
  show (a == b) = _
  rw [Bool.eq_iff_iff, beq_iff_eq, decide_eq_true_eq, ByteArray.mk.injEq]
theorem size_zero (a : ByteArray) : (a == ByteArray.mk #[]) = decide (a.size = 0) := by
  rw [beq_bytes, Bool.eq_iff_iff, decide_eq_true_eq, decide_eq_true_eq]
  constructor
  · rintro rfl; rfl
  · intro h
    obtain ⟨d⟩ := a
    have : d = #[] := Array.eq_empty_of_size_eq_zero h
    rw [this]
theorem s54 (x : Seg) (hk : 1 ≤ x.kind ∧ x.kind ≤ 3) : Runs C 54 x.enc [.bool (decide (SegNum x))] := by
  refine Runs.of (fun n => e54 n _ _ _ _ _ _ _ _) ?_
  refine ((s53 x.ses 0 1099511627776).and ((s53 x.tot 1 65536).and ((s53 x.ser 1 1099511627776).and (s53 x.off 0 (w64 (x.tot - 1)))))).mono fun n h => ?_
  obtain ⟨h1, h2, h3, h4⟩ := h
  simp only [h1, h2, h3, h4, vv, reduceCtorEq, Nat.reduceAdd, Nat.reduceEqDiff, wi]
  have hkk : x.kind = 1 ∨ x.kind = 2 ∨ x.kind = 3 := by omega
  simp only [tB_cnd]
  congr 3
  rw [Bool.eq_iff_iff, decide_eq_true_eq (p := SegNum x)]
  unfold SegNum
  by_cases ht : 1 ≤ x.tot ∧ x.tot ≤ 65536
  · rw [w64_id (x := x.tot - 1) (by omega) (by omega)]
    rcases hkk with hk | hk | hk <;> cases hc : x.chk <;> simp [hk, hc] <;> omega
  · rcases hkk with hk | hk | hk <;> cases hc : x.chk <;> simp [hk, hc] <;> omega
theorem s55 (x : Seg) (hk : 1 ≤ x.kind ∧ x.kind ≤ 3) (hn : SegNum x) : Runs C 55 x.enc [.bool (decide (SegCon x))] := by
  refine Runs.of (fun n => e55 n _ _ _ _ _ _ _ _) ?_
  refine ((s53 (x.data.size : Int) 1 16).and (s79 x.claims x.tot)).mono fun n h => ?_
  obtain ⟨h1, h2⟩ := h
  simp only [h1, h2, vv, reduceCtorEq, Nat.reduceAdd, Nat.reduceEqDiff, wi]
  have hkk : x.kind = 1 ∨ x.kind = 2 ∨ x.kind = 3 := by omega
  simp only [tB_cnd]
  congr 3
  rw [Bool.eq_iff_iff, decide_eq_true_eq (p := SegCon x)]
  unfold SegCon
  unfold SegNum at hn
  rcases hkk with hk | hk | hk
  · have := hn.2.2.2 hk
    rw [w64_id (x := x.tot - x.off) (by omega) (by omega)]
    simp [hk]
    omega
  · simp [hk]
    by_cases hc : x.claims = []
    · have : inside x.claims x.tot = true := by
        rw [hc]
        simp [inside, chkL, runL]
      simp [this]
    · simp [hc]
  · simp [hk]
theorem s27 (x : Seg) : Runs C 27 x.enc [tI (chkG x)] := by
  refine Runs.of (fun n => e27 n _ _ _ _ _ _ _ _) ?_
  unfold chkG
  by_cases hk : 1 ≤ x.kind ∧ x.kind ≤ 3
  · by_cases hn : SegNum x
    · refine ((s53 x.kind 1 3).and ((s54 x hk).and (s55 x hk hn))).mono fun n h => ?_
      obtain ⟨h1, h2, h3⟩ := h
      simp only [Seg.enc] at h2 h3
      simp only [h1, h2, h3, vv, reduceCtorEq, Nat.reduceAdd, Nat.reduceEqDiff, wi, hk, hn, not_true_eq_false]
      by_cases hc : SegCon x <;> simp [hc, cnd_eq]
    · refine ((s53 x.kind 1 3).and (s54 x hk)).mono fun n h => ?_
      obtain ⟨h1, h2⟩ := h
      simp only [Seg.enc] at h2
      simp only [h1, h2, vv, reduceCtorEq, Nat.reduceAdd, Nat.reduceEqDiff, wi, hk, hn, not_true_eq_false, not_false_eq_true]
  · refine (s53 x.kind 1 3).mono fun n h1 => ?_
    simp only [h1, vv, reduceCtorEq, Nat.reduceAdd, Nat.reduceEqDiff, wi, hk, not_false_eq_true]
theorem s85 (x : Seg) : Runs C 85 x.enc [.bool (decide (x.ser = 0 ∧ x.tot = 0 ∧ x.off = 0))] := by
  refine Runs.of (fun n => e85 n _ _ _ _ _ _ _ _) (Ev.of fun n => ?_)
  simp only [tB_cnd]
  congr 3
  rw [Bool.eq_iff_iff, decide_eq_true_eq]
  simp
theorem s86 (x : Seg) : Runs C 86 x.enc [.bool (decide (x.chk = false ∧ x.data.size = 0 ∧ x.claims = []))] := by
  refine Runs.of (fun n => e86 n _ _ _ _ _ _ _ _) (Ev.of fun n => ?_)
  simp only [tB_cnd, size_zero, vv, reduceCtorEq, Nat.reduceAdd, Nat.reduceEqDiff]
  congr 3
  rw [Bool.eq_iff_iff, decide_eq_true_eq]
  simp
theorem s83 (x : Seg) : Runs C 83 x.enc [.bool (decide (1 ≤ x.ser ∧ (1 ≤ x.tot ∧ x.tot ≤ 65536) ∧ x.off = 0))] := by
  refine Runs.of (fun n => e83 n _ _ _ _ _ _ _ _) ?_
  refine (s57 x.tot 1 65536).mono fun n h => ?_
  simp only [h, vv, reduceCtorEq, Nat.reduceAdd, Nat.reduceEqDiff, wi, tB_cnd]
  congr 3
  rw [Bool.eq_iff_iff, decide_eq_true_eq]
  simp
theorem s84 (x : Seg) : Runs C 84 x.enc [.bool (decide (x.chk = false ∧ x.data.size = 0 ∧ inside x.claims x.tot = true))] := by
  refine Runs.of (fun n => e84 n _ _ _ _ _ _ _ _) ?_
  refine (s58 x.claims x.tot).mono fun n h => ?_
  simp only [h, vv, reduceCtorEq, Nat.reduceAdd, Nat.reduceEqDiff, size_zero, tB_cnd]
  congr 3
  rw [Bool.eq_iff_iff, decide_eq_true_eq]
  have : inside x.claims x.tot = true → x.claims.length ≤ 1000 := fun h => by
    unfold inside at h
    exact chkL_len (of_decide_eq_true h).1
  by_cases hi : inside x.claims x.tot = true
  · have h2 := this hi
    simp [hi]
    intros
    omega
  · simp [hi]
theorem s81 (x : Seg) : Runs C 81 x.enc [.bool (decide ((1 ≤ x.tot ∧ x.tot ≤ 65536) ∧ (0 ≤ x.off ∧ x.off ≤ x.tot - 1) ∧ (1 ≤ x.ser ↔ x.chk = true)))] := by
  refine Runs.of (fun n => e81 n _ _ _ _ _ _ _ _) ?_
  refine ((s57 x.tot 1 65536).and (s57 x.off 0 (w64 (x.tot - 1)))).mono fun n h => ?_
  obtain ⟨h1, h2⟩ := h
  simp only [h1, h2, vv, reduceCtorEq, Nat.reduceAdd, Nat.reduceEqDiff, wi, tB_cnd]
  congr 3
  rw [Bool.eq_iff_iff, decide_eq_true_eq]
  by_cases ht : 1 ≤ x.tot ∧ x.tot ≤ 65536
  · rw [w64_id (x := x.tot - 1) (by omega) (by omega)]
    cases hc : x.chk <;> simp [ht] <;> omega
  · simp [ht]
theorem s82 (x : Seg) (hn : 0 ≤ x.off ∧ x.off ≤ 65536 ∧ 0 ≤ x.tot ∧ x.tot ≤ 65536) : Runs C 82 x.enc [.bool (decide ((1 ≤ x.data.size ∧ x.data.size ≤ 16) ∧ (x.data.size : Int) ≤ x.tot - x.off ∧ x.claims = []))] := by
  refine Runs.of (fun n => e82 n _ _ _ _ _ _ _ _) ?_
  refine (s57 (x.data.size : Int) 1 (if w64 (x.tot - x.off) < 16 then w64 (x.tot - x.off) else 16)).mono fun n h1 => ?_
  simp only [h1, vv, reduceCtorEq, Nat.reduceAdd, Nat.reduceEqDiff, wi, tB_cnd]
  congr 3
  rw [Bool.eq_iff_iff, decide_eq_true_eq]
  rw [w64_id (x := x.tot - x.off) (by omega) (by omega)]
  by_cases hc : x.claims = []
  · simp [hc]
    split <;> omega
  · simp [hc]
theorem nc0 : ((0 : Nat) : Int) = 0 := rfl
theorem nc1 : ((1 : Nat) : Int) = 1 := rfl
theorem nc2 : ((2 : Nat) : Int) = 2 := rfl
theorem nc3 : ((3 : Nat) : Int) = 3 := rfl
theorem s38 (x : Seg) : Runs C 38 x.enc [tI (chkG x)] := by
  refine Runs.of (fun n => e38 n _ _ _ _ _ _ _ _) ?_
  unfold chkG
  by_cases hk : 1 ≤ x.kind ∧ x.kind ≤ 3
  · have hkk : x.kind = 1 ∨ x.kind = 2 ∨ x.kind = 3 := by omega
    by_cases hs : 0 ≤ x.ses ∧ x.ses ≤ 1099511627776
    · by_cases hr : 0 ≤ x.ser ∧ x.ser ≤ 1099511627776
      · rcases hkk with h1 | h1 | h1
        · by_cases hq : (1 ≤ x.tot ∧ x.tot ≤ 65536) ∧ (0 ≤ x.off ∧ x.off ≤ x.tot - 1) ∧ (1 ≤ x.ser ↔ x.chk = true)
          · have hn : SegNum x := by
              unfold SegNum
              refine ⟨hs, by omega, by omega, fun _ => ⟨hq.1, hq.2.1, fun hc => ⟨hq.2.2.2 hc, hr.2⟩, fun hc => ?_⟩⟩
              have := mt hq.2.2.1 (by simp [hc])
              omega
            refine ((s57 x.kind 1 3).and ((s57 x.ses 0 1099511627776).and ((s57 x.ser 0 1099511627776).and ((s81 x).and (s82 x (by omega)))))).mono fun n h => ?_
            obtain ⟨g1, g2, g3, g4, g5⟩ := h
            simp only [Seg.enc, h1] at g1 g4 g5
            have hc : SegCon x ↔ ((1 ≤ x.data.size ∧ x.data.size ≤ 16) ∧ (x.data.size : Int) ≤ x.tot - x.off ∧ x.claims = []) := by
              unfold SegCon
              simp [h1]
            simp only [g1, g2, g3, g4, g5, wi, hk, hs, hr, hq, hn, h1, hc, vv, reduceCtorEq, Nat.reduceAdd, Nat.reduceEqDiff, not_true_eq_false, Int.reduceEq, Int.reduceLE, Int.reduceLT, nc0, nc1, nc2, nc3]
            by_cases hd : ((1 ≤ x.data.size ∧ x.data.size ≤ 16) ∧ (x.data.size : Int) ≤ x.tot - x.off ∧ x.claims = []) <;> simp [hd, cnd_eq]
          · have hn : ¬ SegNum x := by
              intro hn
              unfold SegNum at hn
              have := hn.2.2.2 h1
              refine hq ⟨this.1, this.2.1, fun h => ?_, fun h => (this.2.2.1 h).1⟩
              cases hc : x.chk
              · have := this.2.2.2 hc; omega
              · rfl
            refine ((s57 x.kind 1 3).and ((s57 x.ses 0 1099511627776).and ((s57 x.ser 0 1099511627776).and (s81 x)))).mono fun n h => ?_
            obtain ⟨g1, g2, g3, g4⟩ := h
            simp only [Seg.enc, h1] at g1 g4
            simp only [g1, g2, g3, g4, wi, hk, hs, hr, hq, hn, h1, vv, reduceCtorEq, Nat.reduceAdd, Nat.reduceEqDiff, not_true_eq_false, not_false_eq_true, Int.reduceEq, Int.reduceLE, Int.reduceLT, nc0, nc1, nc2, nc3]
        · refine ((s57 x.kind 1 3).and ((s57 x.ses 0 1099511627776).and ((s57 x.ser 0 1099511627776).and ((s83 x).and (s84 x))))).mono fun n h => ?_
          obtain ⟨g1, g2, g3, g4, g5⟩ := h
          simp only [Seg.enc, h1] at g1 g4 g5
          have hn : SegNum x ↔ (1 ≤ x.ser ∧ (1 ≤ x.tot ∧ x.tot ≤ 65536) ∧ x.off = 0) := by
            unfold SegNum
            simp [h1]
            omega
          have hc : SegCon x ↔ (x.chk = false ∧ x.data.size = 0 ∧ inside x.claims x.tot = true) := by
            unfold SegCon
            simp [h1]
          simp only [g1, g2, g3, g4, g5, wi, hk, hs, hr, hn, h1, hc, vv, reduceCtorEq, Nat.reduceAdd, Nat.reduceEqDiff, not_true_eq_false, Int.reduceEq, Int.reduceLE, Int.reduceLT, nc0, nc1, nc2, nc3]
          by_cases hd : (1 ≤ x.ser ∧ (1 ≤ x.tot ∧ x.tot ≤ 65536) ∧ x.off = 0) <;> by_cases he : (x.chk = false ∧ x.data.size = 0 ∧ inside x.claims x.tot = true) <;> simp only [hd, he, vv, reduceCtorEq, Nat.reduceAdd, Nat.reduceEqDiff, not_true_eq_false, not_false_eq_true]
        · refine ((s57 x.kind 1 3).and ((s57 x.ses 0 1099511627776).and ((s57 x.ser 0 1099511627776).and ((s85 x).and (s86 x))))).mono fun n h => ?_
          obtain ⟨g1, g2, g3, g4, g5⟩ := h
          simp only [Seg.enc, h1] at g1 g4 g5
          have hn : SegNum x ↔ (x.ser = 0 ∧ x.tot = 0 ∧ x.off = 0) := by
            unfold SegNum
            simp [h1]
            omega
          have hc : SegCon x ↔ (x.chk = false ∧ x.data.size = 0 ∧ x.claims = []) := by
            unfold SegCon
            simp [h1]
          simp only [g1, g2, g3, g4, g5, wi, hk, hs, hr, hn, h1, hc, vv, reduceCtorEq, Nat.reduceAdd, Nat.reduceEqDiff, not_true_eq_false, Int.reduceEq, Int.reduceLE, Int.reduceLT, nc0, nc1, nc2, nc3]
          by_cases hd : (x.ser = 0 ∧ x.tot = 0 ∧ x.off = 0) <;> by_cases he : (x.chk = false ∧ x.data.size = 0 ∧ x.claims = []) <;> simp only [hd, he, vv, reduceCtorEq, Nat.reduceAdd, Nat.reduceEqDiff, not_true_eq_false, not_false_eq_true]
      · have hn : ¬ SegNum x := by
          intro hn
          unfold SegNum at hn
          rcases hkk with h1 | h1 | h1
          · have := hn.2.2.2 h1
            cases hc : x.chk
            · have := this.2.2.2 hc; omega
            · have := this.2.2.1 hc; omega
          · have := hn.2.2.1 h1; omega
          · have := hn.2.1 h1; omega
        refine ((s57 x.kind 1 3).and ((s57 x.ses 0 1099511627776).and (s57 x.ser 0 1099511627776))).mono fun n h => ?_
        obtain ⟨g1, g2, g3⟩ := h
        rcases hkk with h1 | h1 | h1 <;> simp only [h1] at g1 <;> simp only [g1, g2, g3, wi, hk, hs, hr, hn, h1, vv, reduceCtorEq, Nat.reduceAdd, Nat.reduceEqDiff, not_true_eq_false, not_false_eq_true, Int.reduceEq, Int.reduceLE, Int.reduceLT, nc0, nc1, nc2, nc3]
    · have hn : ¬ SegNum x := by
        intro hn
        unfold SegNum at hn
        exact hs hn.1
      refine ((s57 x.kind 1 3).and (s57 x.ses 0 1099511627776)).mono fun n h => ?_
      obtain ⟨g1, g2⟩ := h
      rcases hkk with h1 | h1 | h1 <;> simp only [h1] at g1 <;> simp only [g1, g2, wi, hk, hs, hn, h1, vv, reduceCtorEq, Nat.reduceAdd, Nat.reduceEqDiff, not_true_eq_false, not_false_eq_true, Int.reduceEq, Int.reduceLE, Int.reduceLT, nc0, nc1, nc2, nc3]
  · refine (s57 x.kind 1 3).mono fun n h1 => ?_
    simp only [h1, vv, reduceCtorEq, Nat.reduceAdd, Nat.reduceEqDiff, wi, hk, not_false_eq_true]
end Ab

set_option linter.unusedVariables false
set_option linter.unusedSimpArgs false
namespace Ab
open Go

theorem s26 (ses ser tot : Int) (l : List Span) : Runs C 26 [tI ses, tI ser, tI tot, .sl 2 (l.map Span.enc)] (if chkG ⟨2, ses, ser, 0, tot, false, ByteArray.mk #[], l⟩ = 0 then (Seg.enc ⟨2, ses, ser, 0, tot, false, ByteArray.mk #[], l⟩) ++ [tI 0] else (Seg.enc ⟨0, 0, 0, 0, 0, false, ByteArray.mk #[], []⟩) ++ [tI (chkG ⟨2, ses, ser, 0, tot, false, ByteArray.mk #[], l⟩)]) := by
  refine Runs.of (fun n => e26 n _ _ _ _) ?_
  refine (s38 ⟨2, ses, ser, 0, tot, false, ByteArray.mk #[], l⟩).mono fun n h => ?_
  simp only [Seg.enc] at h
  simp only [h, vv, reduceCtorEq, Nat.reduceAdd, Nat.reduceEqDiff]
  by_cases hc : chkG ⟨2, ses, ser, 0, tot, false, ByteArray.mk #[], l⟩ = 0
  · simp [hc, cnd_eq, Seg.enc]
  · simp [hc, cnd_eq, Seg.enc]
/-- The ticks of a segment. -/
theorem chkG_data {x : Seg} (h : chkG x = 0) (hk : x.kind = 1) : x.data.size ≤ 16 ∧ 1 ≤ x.data.size := by
  unfold chkG at h
  split at h
  · cases h
  · split at h
    · cases h
    · split at h
      · cases h
      · rename_i h3
        have h4 : SegCon x := Classical.not_not.1 h3
        have := (h4.2.2 hk).1
        omega
theorem tdiv_nn {a b : Int} (h : 0 ≤ a) : Int.tdiv a b = a / b := Int.tdiv_eq_ediv_of_nonneg h
def greatG (x : Seg) : Bool := decide (40 < x.data.size ∨ 60 < x.claims.length ∧ x.claims.length ≤ 1000 ∨ 1100 < x.claims.length)
theorem s37 (x : Seg) : Runs C 37 x.enc [.bool (greatG x)] := by
  refine Runs.of (fun n => e37 n _ _ _ _ _ _ _ _) (Ev.of fun n => ?_)
  simp only [tB_cnd, vv, reduceCtorEq, Nat.reduceAdd, Nat.reduceEqDiff]
  congr 3
  unfold greatG
  rw [Bool.eq_iff_iff, decide_eq_true_eq]
  (repeat' split) <;> simp <;> omega
theorem s51 (a b : Seg) (ha : a.claims.length ≤ 1000000) : Runs C 51 (a.enc ++ b.enc) [.bool (decide (a = b))] := by
  refine Runs.of (fun n => e51 n _ _ _ _ _ _ _ _ _ _ _ _ _ _ _ _) ?_
  refine (s45 a.claims b.claims ha).mono fun n h => ?_
  simp only [h, vv, reduceCtorEq, Nat.reduceAdd, Nat.reduceEqDiff, tB_cnd, beq_bytes]
  congr 3
  cases a
  cases b
  simp only [Seg.mk.injEq]
  rw [Bool.eq_iff_iff, decide_eq_true_eq]
  simp
end Ab

set_option linter.unusedVariables false
set_option linter.unusedSimpArgs false
namespace Ab
open Go
def memS (t : Int) : List Span → Prop
  | [] => False
  | x :: l => (x.fro ≤ t ∧ t < x.to) ∨ memS t l
def Canon : Int → List Span → Prop
  | _, [] => True
  | b, x :: l => b < x.fro ∧ x.fro < x.to ∧ Canon x.to l
def Top (l : List Span) : Prop := ∀ x ∈ l, x.to ≤ 1152921504606846976
theorem canon_mem : ∀ {l : List Span} {b t : Int}, Canon b l → memS t l → b < t
  | x :: l, b, t, h, m => by
    rcases m with m | m
    · have := h.1; omega
    · have := canon_mem h.2.2 m
      have := h.1
      have := h.2.1
      omega
theorem canon_weak : ∀ {l : List Span} {b b' : Int}, Canon b l → b' ≤ b → Canon b' l
  | [], _, _, _, _ => trivial
  | x :: l, b, b', h, hb => ⟨by have := h.1; omega, h.2.1, h.2.2⟩
theorem canon_unique : ∀ {l l' : List Span} {b b' : Int}, Canon b l → Canon b' l' → (∀ t, memS t l ↔ memS t l') → l = l'
  | [], [], _, _, _, _, _ => rfl
  | [], y :: l', _, _, _, h', hm => ((hm y.fro).2 (.inl ⟨Int.le_refl _, h'.2.1⟩)).elim
  | x :: l, [], _, _, h, _, hm => ((hm x.fro).1 (.inl ⟨Int.le_refl _, h.2.1⟩)).elim
  | x :: l, y :: l', b, b', h, h', hm => by
    have e1 : x.fro = y.fro := by
      have h1 : y.fro ≤ x.fro := by
        rcases (hm x.fro).1 (.inl ⟨Int.le_refl _, h.2.1⟩) with m | m
        · exact m.1
        · have := canon_mem h'.2.2 m; have := h'.2.1; omega
      have h2 : x.fro ≤ y.fro := by
        rcases (hm y.fro).2 (.inl ⟨Int.le_refl _, h'.2.1⟩) with m | m
        · exact m.1
        · have := canon_mem h.2.2 m; have := h.2.1; omega
      omega
    have e2 : x.to = y.to := by
      have hx := h.2.1
      have hy := h'.2.1
      rcases Int.lt_trichotomy x.to y.to with q | q | q
      · rcases (hm x.to).2 (.inl ⟨by omega, q⟩) with m | m
        · omega
        · have := canon_mem h.2.2 m; omega
      · exact q
      · rcases (hm y.to).1 (.inl ⟨by omega, q⟩) with m | m
        · omega
        · have := canon_mem h'.2.2 m; omega
    have e3 : l = l' := canon_unique h.2.2 h'.2.2 fun t => by
      have := hm t
      simp only [memS, e1, e2] at this
      constructor
      · intro m
        rcases this.1 (.inr m) with q | q
        · have := canon_mem h.2.2 m; omega
        · exact q
      · intro m
        rcases this.2 (.inr m) with q | q
        · have := canon_mem h'.2.2 m; omega
        · exact q
    cases x
    cases y
    simp only at e1 e2
    rw [e1, e2, e3]
/-! ### Check -/
def CV : Option Int → List Span → Prop
  | _, [] => True
  | o, x :: l => Valid x ∧ (∀ p, o = some p → p < x.fro) ∧ CV (some x.to) l
theorem chk_run (L : List Span) : ∀ (l pre : List Span), L = pre ++ l → (runL (chkStep L) (fun _ => (0 : Int)) pre.length l () = 0 ↔ CV (pre.getLast?.map (·.to)) l)
  | [], pre, h => by simp [runL, CV]
  | x :: l, pre, h => by
    have ih := chk_run L l (pre ++ [x]) (by simp [h])
    simp only [List.length_append, List.length_cons, List.length_nil, Nat.zero_add, List.getLast?_append, List.getLast?_singleton, Option.some_or, Option.map_some] at ih
    simp only [runL, CV, chkStep]
    by_cases hv : Valid x
    · simp only [hv, not_true_eq_false, if_false, true_and]
      rcases List.eq_nil_or_concat pre with rfl | ⟨q, y, rfl⟩
      · simp only [List.length_nil, ne_eq, not_true_eq_false, false_and, if_false, List.getLast?_nil, Option.map_none, reduceCtorEq, false_implies, implies_true, true_and]
        simpa using ih
      · rw [List.concat_eq_append] at h ih ⊢
        have e : L[(q ++ [y]).length - 1]? = some y := by
          rw [h]
          simp
        simp only [e, Option.map_some, Option.some.injEq, decide_eq_true_eq]
        simp only [List.length_append, List.length_cons, List.length_nil, Nat.zero_add, ne_eq, Nat.add_eq_zero_iff, Nat.one_ne_zero, and_false, not_false_eq_true, true_and, List.getLast?_append, List.getLast?_singleton, Option.some_or, Option.map_some, Option.some.injEq, forall_eq']
        simp only [List.length_append, List.length_cons, List.length_nil, Nat.zero_add] at ih
        by_cases hq : x.fro ≤ y.to
        · simp only [hq, if_true]
          constructor
          · intro h; cases h
          · rintro ⟨h, _⟩; omega
        · simp only [hq, if_false]
          rw [ih]
          constructor
          · intro h; exact ⟨by omega, h⟩
          · exact fun h => h.2
    · simp only [hv, not_false_eq_true, if_true, false_and, iff_false]
      intro h; cases h
theorem cv_canon : ∀ (l : List Span) (o : Option Int) (b : Int), (∀ p, o = some p → p = b) → (o = none → b = -1152921504606846977) → -1152921504606846977 ≤ b → (CV o l ↔ Canon b l ∧ Top l)
  | [], o, b, _, _, _ => by simp [CV, Canon, Top]
  | x :: l, o, b, h1, h2, h3 => by
    have ih := fun hb => cv_canon l (some x.to) x.to (fun p hp => (Option.some.inj hp).symm) (fun h => by cases h) hb
    simp only [CV, Canon, Top, List.mem_cons, forall_eq_or_imp]
    constructor
    · rintro ⟨⟨v1, v2, v3⟩, g1, g2⟩
      have := (ih (by omega)).1 g2
      refine ⟨⟨?_, v1, this.1⟩, v3, this.2⟩
      cases o with
      | none => have := h2 rfl; omega
      | some p => have := g1 p rfl; have := h1 p rfl; omega
    · rintro ⟨⟨g1, g2, g3⟩, g4, g5⟩
      refine ⟨⟨g2, by omega, g4⟩, fun p hp => ?_, (ih (by omega)).2 ⟨g3, g5⟩⟩
      have := h1 p hp
      omega
theorem chkL_iff (l : List Span) : chkL l = 0 ↔ l.length ≤ 1000 ∧ Canon (-1152921504606846977) l ∧ Top l := by
  have := chk_run l l [] rfl
  simp only [List.length_nil, List.getLast?_nil, Option.map_none] at this
  rw [cv_canon l none (-1152921504606846977) (by simp) (by simp) (by omega)] at this
  unfold chkL
  split
  · constructor
    · intro h; cases h
    · intro h; omega
  · rw [this]
    constructor
    · intro h; exact ⟨by omega, h⟩
    · exact fun h => h.2
/-! ### the sweep -/
structure Sd where
  l : List Span
  i : Bool
def Sd.next (s : Sd) : Option Int := match s.l with
  | [] => none
  | x :: _ => some (if s.i then x.to else x.fro)
def Sd.pass (s : Sd) (t : Int) : Sd := if s.next = some t then ⟨if s.i then s.l.tail else s.l, !s.i⟩ else s
def tmin : Option Int → Option Int → Option Int
  | none, o => o
  | some m, none => some m
  | some m, some n => some (if n < m then n else m)
def Sd.sz (s : Sd) : Nat := 2 * s.l.length - (if s.i then 1 else 0)
def Sd.Inv (s : Sd) (t0 : Int) : Prop := match s.l with
  | [] => s.i = false
  | x :: l => (if s.i then t0 < x.to else t0 < x.fro ∧ x.fro < x.to) ∧ Canon x.to l
def Sd.mem (s : Sd) (t : Int) : Prop := match s.l with
  | [] => False
  | x :: l => (if s.i then t < x.to else x.fro ≤ t ∧ t < x.to) ∨ memS t l
theorem Sd.pass_inv {s : Sd} {t0 t1 : Int} (h : s.Inv t0) (ht : t0 < t1) (hn : ∀ n, s.next = some n → t1 ≤ n) : (s.pass t1).Inv t1 ∧ ∀ t, t1 ≤ t → ((s.pass t1).mem t ↔ s.mem t) := by
  obtain ⟨l, i⟩ := s
  cases l with
  | nil => simp [Sd.pass, Sd.next, Sd.Inv, Sd.mem] at *; exact h
  | cons x l =>
    simp only [Sd.next] at hn
    have hn := hn _ rfl
    cases i with
    | true =>
      simp only [Sd.Inv, if_true] at h hn
      by_cases hq : x.to = t1
      · simp only [Sd.pass, Sd.next, if_true, hq, List.tail_cons, Bool.not_true]
        refine ⟨?_, fun t ht => ?_⟩
        · cases l with
          | nil => rfl
          | cons y l => exact ⟨by simp only [Bool.false_eq_true, if_false]; exact ⟨hq ▸ h.2.1, h.2.2.1⟩, h.2.2.2⟩
        · simp only [Sd.mem, if_true]
          have : ¬ t < x.to := by omega
          simp only [this, false_or]
          cases l <;> simp [memS]
      · simp only [Sd.pass, Sd.next, if_true, Option.some.injEq, hq, if_false]
        exact ⟨⟨by simp only [if_true]; omega, h.2⟩, fun _ _ => by first | exact Iff.rfl | trivial⟩
    | false =>
      simp only [Sd.Inv, Bool.false_eq_true, if_false] at h hn
      by_cases hq : x.fro = t1
      · simp only [Sd.pass, Sd.next, Bool.false_eq_true, if_false, hq, if_true, Bool.not_false]
        refine ⟨⟨by simp only [if_true]; omega, h.2⟩, fun t ht => ?_⟩
        simp only [Sd.mem, if_true, Bool.false_eq_true, if_false]
        have : x.fro ≤ t := by omega
        simp only [this, true_and]
      · simp only [Sd.pass, Sd.next, Bool.false_eq_true, if_false, Option.some.injEq, hq]
        exact ⟨⟨by simp only [Bool.false_eq_true, if_false]; omega, h.2⟩, fun _ _ => by first | exact Iff.rfl | trivial⟩
theorem Sd.still {s : Sd} {t0 t : Int} (h : s.Inv t0) (ht : t0 ≤ t) (hn : ∀ n, s.next = some n → t < n) : s.mem t ↔ s.i = true := by
  obtain ⟨l, i⟩ := s
  cases l with
  | nil => simp [Sd.mem, Sd.Inv] at *; exact h
  | cons x l =>
    simp only [Sd.next] at hn
    have hn := hn _ rfl
    have hl : ∀ {u}, u < x.to → ¬ memS u l := fun hu m => by have := canon_mem h.2 m; omega
    cases i with
    | true =>
      simp only [Sd.mem, if_true] at hn ⊢
      simp [hn]
    | false =>
      simp only [Sd.Inv, Sd.mem, Bool.false_eq_true, if_false] at hn h ⊢
      have := hl (show t < x.to by omega)
      simp only [this, or_false, iff_false]
      omega
theorem Sd.after {s : Sd} {t0 n : Int} (h : s.Inv t0) (hn : s.next = some n) : t0 < n := by
  obtain ⟨l, i⟩ := s
  cases l with
  | nil => cases hn
  | cons x l =>
    simp only [Sd.next, Option.some.injEq] at hn
    cases i with
    | true => simp only [Sd.Inv, if_true] at h hn; omega
    | false => simp only [Sd.Inv, Bool.false_eq_true, if_false] at h hn; omega
theorem Sd.pass_sz (s : Sd) (t : Int) : (s.pass t).sz ≤ s.sz ∧ (s.next = some t → (s.pass t).sz < s.sz) := by
  obtain ⟨l, i⟩ := s
  unfold Sd.pass
  cases l with
  | nil => simp [Sd.next]
  | cons x l =>
    split
    · cases i <;> simp [Sd.sz] <;> omega
    · rename_i h
      exact ⟨Nat.le_refl _, fun h2 => (h h2).elim⟩
theorem tmin_some {a b : Option Int} {t : Int} (h : tmin a b = some t) : (a = some t ∨ b = some t) ∧ (∀ n, a = some n → t ≤ n) ∧ ∀ n, b = some n → t ≤ n := by
  cases a with
  | none => cases b with
    | none => cases h
    | some n => simp [tmin] at h; subst h; simp
  | some m => cases b with
    | none => simp [tmin] at h; subst h; simp
    | some n =>
      simp only [tmin, Option.some.injEq] at h
      split at h <;> subst h <;> simp <;> omega
/-- The sweep: the intervals that are closed from here on; o: where the open one began. -/
def go (f : Bool → Bool → Bool) (a b : Sd) (o : Option Int) : List Span :=
  match h : tmin a.next b.next with
  | none => []
  | some t =>
    if f (a.pass t).i (b.pass t).i = true then go f (a.pass t) (b.pass t) (some (o.getD t))
    else match o with
      | some s => ⟨s, t⟩ :: go f (a.pass t) (b.pass t) none
      | none => go f (a.pass t) (b.pass t) none
termination_by a.sz + b.sz
decreasing_by
  all_goals
    have h1 := (tmin_some h).1
    have h2 := a.pass_sz t
    have h3 := b.pass_sz t
    rcases h1 with h1 | h1
    · have := h2.2 h1; omega
    · have := h3.2 h1; omega
theorem tmin_none {a b : Option Int} (h : tmin a b = none) : a = none ∧ b = none := by
  cases a <;> cases b <;> simp [tmin] at h ⊢
theorem next_none {s : Sd} (h : s.next = none) : s.l = [] := by
  obtain ⟨l, i⟩ := s
  cases l with
  | nil => rfl
  | cons x l => simp [Sd.next] at h
theorem mem_true {s : Sd} {t : Int} {b : Bool} (h : s.mem t ↔ b = true) : (decide (b = true)) = b := by cases b <;> rfl
def EE (f : Bool → Bool → Bool) (a b : Sd) (u : Int) : Prop := ∃ p q : Bool, (a.mem u ↔ p = true) ∧ (b.mem u ↔ q = true) ∧ f p q = true
theorem step_sem {f : Bool → Bool → Bool} {a b : Sd} {o : Option Int} {t0 t : Int} (h : tmin a.next b.next = some t) (ha : a.Inv t0) (hb : b.Inv t0) (ho : o.isSome = f a.i b.i) (h1 : ∀ s, o = some s → s ≤ t0) (u : Int) :
    ((∃ s, o = some s ∧ s ≤ u ∧ u < t0) ∨ (t0 ≤ u ∧ EE f a b u)) ↔ ((∃ s, o = some s ∧ s ≤ u ∧ u < t) ∨ (t ≤ u ∧ EE f (a.pass t) (b.pass t) u)) := by
  obtain ⟨e1, e2, e3⟩ := tmin_some h
  have ht : t0 < t := by
    rcases e1 with e | e
    · exact Sd.after ha e
    · exact Sd.after hb e
  obtain ⟨a1, a2⟩ := Sd.pass_inv ha ht e2
  obtain ⟨b1, b2⟩ := Sd.pass_inv hb ht e3
  rcases Int.lt_or_le u t0 with hu | hu
  · have n1 : ¬ t0 ≤ u := by omega
    have n2 : ¬ t ≤ u := by omega
    have n3 : u < t := by omega
    simp only [n1, n2, n3, hu, false_and, or_false, and_true]
  · rcases Int.lt_or_le u t with hv | hv
    · have n1 : ¬ u < t0 := by omega
      have n2 : ¬ t ≤ u := by omega
      have m1 := Sd.still ha hu (fun n hn => by have := e2 n hn; omega)
      have m2 := Sd.still hb hu (fun n hn => by have := e3 n hn; omega)
      have hE : EE f a b u ↔ f a.i b.i = true := by
        constructor
        · rintro ⟨p, q, g1, g2, g3⟩
          rw [m1] at g1
          rw [m2] at g2
          rw [Bool.eq_iff_iff.2 g1, Bool.eq_iff_iff.2 g2]
          exact g3
        · exact fun g => ⟨_, _, m1, m2, g⟩
      simp only [n1, n2, hv, hu, and_false, exists_false, false_or, true_and, false_and, or_false, and_true, hE, ← ho]
      cases o with
      | none => simp
      | some s => have := h1 s rfl; simp; omega
    · have n1 : ¬ u < t0 := by omega
      have n2 : ¬ u < t := by omega
      have hE : EE f a b u ↔ EE f (a.pass t) (b.pass t) u := by unfold EE; simp only [a2 u hv, b2 u hv]
      simp only [n1, n2, hu, hv, and_false, exists_false, false_or, true_and, hE]
theorem go_none {f : Bool → Bool → Bool} {a b : Sd} {o : Option Int} (h : tmin a.next b.next = none) : go f a b o = [] := by
  rw [go]
  split
  · rfl
  · rename_i t h'; rw [h] at h'; cases h'
theorem go_some {f : Bool → Bool → Bool} {a b : Sd} {o : Option Int} {t : Int} (h : tmin a.next b.next = some t) : go f a b o = if f (a.pass t).i (b.pass t).i = true then go f (a.pass t) (b.pass t) (some (o.getD t))
    else match o with
      | some s => ⟨s, t⟩ :: go f (a.pass t) (b.pass t) none
      | none => go f (a.pass t) (b.pass t) none := by
  conv => lhs; rw [go]
  split
  · rename_i h'; rw [h] at h'; cases h'
  · rename_i t' h'
    rw [h] at h'
    cases h'
    rfl
theorem go_spec (f : Bool → Bool → Bool) (hf : f false false = false) : ∀ (k : Nat) (a b : Sd) (o : Option Int) (t0 lo : Int), a.sz + b.sz < k → a.Inv t0 → b.Inv t0 → (o.isSome = f a.i b.i) → (∀ s, o = some s → lo < s ∧ s ≤ t0) → (o = none → lo ≤ t0) →
    Canon lo (go f a b o) ∧ ∀ t, memS t (go f a b o) ↔ (∃ s, o = some s ∧ s ≤ t ∧ t < t0) ∨ (t0 ≤ t ∧ EE f a b t) := by
  intro k
  induction k with
  | zero => intro a b o t0 lo hk; omega
  | succ k ih =>
    intro a b o t0 lo hk ha hb ho h1 h2
    cases h : tmin a.next b.next with
    | none =>
      obtain ⟨e1, e2⟩ := tmin_none h
      have l1 := next_none e1
      have l2 := next_none e2
      have i1 : a.i = false := by simpa [Sd.Inv, l1] using ha
      have i2 : b.i = false := by simpa [Sd.Inv, l2] using hb
      rw [i1, i2, hf] at ho
      obtain rfl : o = none := by cases o <;> simp at ho ⊢
      rw [go_none h]
      refine ⟨trivial, fun t => ?_⟩
      simp only [memS, reduceCtorEq, false_and, exists_false, false_or, false_iff]
      rintro ⟨_, p, q, g1, g2, g3⟩
      simp only [Sd.mem, l1, l2, false_iff] at g1 g2
      cases p <;> cases q <;> simp_all
    | some t =>
      obtain ⟨e1, e2, e3⟩ := tmin_some h
      have ht : t0 < t := by
        rcases e1 with e | e
        · exact Sd.after ha e
        · exact Sd.after hb e
      obtain ⟨a1, a2⟩ := Sd.pass_inv ha ht e2
      obtain ⟨b1, b2⟩ := Sd.pass_inv hb ht e3
      have hsz : (a.pass t).sz + (b.pass t).sz < k := by
        have h2 := a.pass_sz t
        have h3 := b.pass_sz t
        rcases e1 with h1 | h1
        · have := h2.2 h1; omega
        · have := h3.2 h1; omega
      have hsem := step_sem h ha hb ho (fun s e => (h1 s e).2)
      rw [go_some h]
      by_cases hc : f (a.pass t).i (b.pass t).i = true
      · rw [if_pos hc]
        have hs : lo < o.getD t ∧ o.getD t ≤ t := by
          cases o with
          | none => have := h2 rfl; simp; omega
          | some s => have := h1 s rfl; simp; omega
        obtain ⟨k1, k2⟩ := ih (a.pass t) (b.pass t) (some (o.getD t)) t lo hsz a1 b1 (by simp [hc]) (fun s e => by cases e; exact hs) (fun e => by cases e)
        refine ⟨k1, fun u => ?_⟩
        rw [k2 u, hsem u]
        cases o with
        | none => simp; omega
        | some s => simp
      · rw [if_neg hc]
        have hc' : f (a.pass t).i (b.pass t).i = false := by simpa using hc
        cases o with
        | none =>
          obtain ⟨k1, k2⟩ := ih (a.pass t) (b.pass t) none t lo hsz a1 b1 (by simp [hc']) (fun s e => by cases e) (fun e => by have := h2 rfl; omega)
          refine ⟨k1, fun u => ?_⟩
          rw [k2 u, hsem u]
        | some s =>
          have hs := h1 s rfl
          obtain ⟨k1, k2⟩ := ih (a.pass t) (b.pass t) none t t hsz a1 b1 (by simp [hc']) (fun s e => by cases e) (fun e => Int.le_refl _)
          refine ⟨⟨hs.1, by simp only; omega, k1⟩, fun u => ?_⟩
          simp only [memS]
          rw [k2 u, hsem u]
          simp
end Ab

set_option linter.unusedVariables false
set_option linter.unusedSimpArgs false
namespace Ab
open Go
def mergeR (x : Span) : List Span → List Span
  | [] => [x]
  | y :: l => if y.fro ≤ x.to then mergeR ⟨if y.fro < x.fro then y.fro else x.fro, if y.to > x.to then y.to else x.to⟩ l else x :: y :: l
def insR (x : Span) : List Span → List Span
  | [] => mergeR x []
  | y :: l => if y.to < x.fro then y :: insR x l else mergeR x (y :: l)
theorem canon_to {l : List Span} {b : Int} (h : Canon b l) : ∀ y ∈ l, b < y.fro ∧ y.fro < y.to := by
  induction l generalizing b with
  | nil => simp
  | cons x l ih =>
    intro y hy
    rcases List.mem_cons.1 hy with rfl | hy
    · exact ⟨h.1, h.2.1⟩
    · have := ih h.2.2 y hy
      have h1 := h.1
      have h2 := h.2.1
      omega
theorem merge_spec : ∀ (l : List Span) (x : Span) (lo : Int), Canon lo l → x.fro < x.to → lo < x.fro → (∀ y ∈ l, x.fro ≤ y.to) → Canon lo (mergeR x l) ∧ ∀ t, memS t (mergeR x l) ↔ (x.fro ≤ t ∧ t < x.to) ∨ memS t l
  | [], x, lo, h, h1, h2, h3 => ⟨⟨h2, h1, trivial⟩, fun t => Iff.rfl⟩
  | y :: l, x, lo, h, h1, h2, h3 => by
    unfold mergeR
    have hy := h3 y (by simp)
    have g1 := h.1
    have g2 := h.2.1
    split
    · rename_i hq
      obtain ⟨k1, k2⟩ := merge_spec l ⟨if y.fro < x.fro then y.fro else x.fro, if y.to > x.to then y.to else x.to⟩ lo (canon_weak h.2.2 (by omega)) (by simp only; split <;> split <;> omega) (by simp only; split <;> omega) (fun z hz => by
        have := canon_to h.2.2 z hz
        simp only
        split <;> omega)
      refine ⟨k1, fun t => ?_⟩
      rw [k2 t]
      simp only [memS]
      rw [← or_assoc]
      refine or_congr ?_ Iff.rfl
      split <;> split <;> omega
    · rename_i hq
      exact ⟨⟨h2, h1, by omega, h.2.1, h.2.2⟩, fun t => Iff.rfl⟩
theorem ins_spec : ∀ (l : List Span) (x : Span) (lo : Int), Canon lo l → x.fro < x.to → lo < x.fro → Canon lo (insR x l) ∧ ∀ t, memS t (insR x l) ↔ (x.fro ≤ t ∧ t < x.to) ∨ memS t l
  | [], x, lo, h, h1, h2 => merge_spec [] x lo h h1 h2 (by simp)
  | y :: l, x, lo, h, h1, h2 => by
    unfold insR
    split
    · rename_i hq
      obtain ⟨k1, k2⟩ := ins_spec l x y.to h.2.2 h1 hq
      refine ⟨⟨h.1, h.2.1, k1⟩, fun t => ?_⟩
      simp only [memS]
      rw [k2 t]
      constructor
      · rintro (h | h | h)
        · exact .inr (.inl h)
        · exact .inl h
        · exact .inr (.inr h)
      · rintro (h | h | h)
        · exact .inr (.inl h)
        · exact .inl h
        · exact .inr (.inr h)
    · rename_i hq
      refine merge_spec (y :: l) x lo h h1 h2 fun z hz => ?_
      rcases List.mem_cons.1 hz with rfl | hz
      · omega
      · have := canon_to h.2.2 z hz
        omega
def unionR (a b : List Span) : List Span := b.foldl (fun l x => insR x l) a
theorem union_spec : ∀ (b a : List Span) (lo c : Int), Canon lo a → Canon c b → lo ≤ c → Canon lo (unionR a b) ∧ ∀ t, memS t (unionR a b) ↔ memS t a ∨ memS t b
  | [], a, lo, c, h, _, _ => ⟨h, fun t => by simp [unionR, memS]⟩
  | x :: b, a, lo, c, h, hb, hc => by
    have g1 := hb.1
    have g2 := hb.2.1
    obtain ⟨k1, k2⟩ := ins_spec a x lo h hb.2.1 (by omega)
    obtain ⟨m1, m2⟩ := union_spec b (insR x a) lo x.to k1 hb.2.2 (by omega)
    refine ⟨m1, fun t => ?_⟩
    show memS t (unionR (insR x a) b) ↔ _
    rw [m2 t, k2 t]
    simp only [memS]
    constructor
    · rintro ((h | h) | h)
      · exact .inr (.inl h)
      · exact .inl h
      · exact .inr (.inr h)
    · rintro (h | h | h)
      · exact .inl (.inr h)
      · exact .inl (.inl h)
      · exact .inr h
/-! ### difference -/
def outR (from_ : Int) : List Span → List Span
  | [] => if from_ < 1152921504606846976 then [⟨from_, 1152921504606846976⟩] else []
  | x :: l => if from_ < x.fro then ⟨from_, x.fro⟩ :: outR x.to l else outR x.to l
theorem out_spec : ∀ (l : List Span) (f : Int), Canon (f - 1) l → Top l → Canon (f - 1) (outR f l) ∧ ∀ t, memS t (outR f l) ↔ f ≤ t ∧ t < 1152921504606846976 ∧ ¬ memS t l
  | [], f, h, ht => by
    unfold outR
    split
    · exact ⟨⟨by simp only; omega, by simp only; omega, trivial⟩, fun t => by simp [memS]⟩
    · exact ⟨trivial, fun t => by simp [memS]; omega⟩
  | x :: l, f, h, ht => by
    have g1 := h.1
    have g2 := h.2.1
    have g3 := ht x (by simp)
    obtain ⟨k1, k2⟩ := out_spec l x.to (canon_weak h.2.2 (by omega)) fun y hy => ht y (by simp [hy])
    have hl : ∀ t, memS t l → x.to < t := fun t m => canon_mem h.2.2 m
    unfold outR
    split
    · rename_i hq
      refine ⟨⟨by simp only; omega, hq, canon_weak k1 (by simp only; omega)⟩, fun t => ?_⟩
      simp only [memS]
      rw [k2 t]
      have := hl t
      constructor
      · rintro (h | ⟨h, h', h''⟩)
        · refine ⟨h.1, by omega, ?_⟩
          rintro (m | m)
          · omega
          · have := this m; omega
        · refine ⟨by omega, h', ?_⟩
          rintro (m | m)
          · omega
          · exact h'' m
      · rintro ⟨h, h', h''⟩
        by_cases hx : t < x.fro
        · exact .inl ⟨h, hx⟩
        · refine .inr ⟨?_, h', fun m => h'' (.inr m)⟩
          apply Classical.byContradiction
          intro hn
          exact h'' (.inl ⟨by omega, by omega⟩)
    · rename_i hq
      refine ⟨canon_weak k1 (by omega), fun t => ?_⟩
      simp only [memS]
      rw [k2 t]
      have := hl t
      constructor
      · rintro ⟨h, h', h''⟩
        refine ⟨by omega, h', ?_⟩
        rintro (m | m)
        · omega
        · exact h'' m
      · rintro ⟨h, h', h''⟩
        refine ⟨?_, h', fun m => h'' (.inr m)⟩
        apply Classical.byContradiction
        intro hn
        exact h'' (.inl ⟨by omega, by omega⟩)
def mxI (a b : Int) : Int := if b > a then b else a
def mnI (a b : Int) : Int := if b < a then b else a
theorem mxI_ok (a b : Int) : a ≤ mxI a b ∧ b ≤ mxI a b ∧ (mxI a b = a ∨ mxI a b = b) := by unfold mxI; split <;> omega
theorem mnI_ok (a b : Int) : mnI a b ≤ a ∧ mnI a b ≤ b ∧ (mnI a b = a ∨ mnI a b = b) := by unfold mnI; split <;> omega
def piece (x y : Span) : Option Span := if mxI x.fro y.fro < mnI x.to y.to then some ⟨mxI x.fro y.fro, mnI x.to y.to⟩ else none
def bothR (a o : List Span) : List Span := a.flatMap fun x => o.filterMap (piece x)
theorem canon_append : ∀ {l l' : List Span} {b u : Int}, Canon b l → (∀ y ∈ l, y.to ≤ u) → b ≤ u → Canon u l' → Canon b (l ++ l')
  | [], l', b, u, _, _, hb, h' => canon_weak h' hb
  | x :: l, l', b, u, h, hu, hb, h' => ⟨h.1, h.2.1, canon_append h.2.2 (fun y hy => hu y (by simp [hy])) (hu x (by simp)) h'⟩
theorem mem_append' {t : Int} : ∀ {l l' : List Span}, memS t (l ++ l') ↔ memS t l ∨ memS t l'
  | [], l' => by simp [memS]
  | x :: l, l' => by simp only [List.cons_append, memS, mem_append' (l := l), or_assoc]
theorem pieces_spec (x : Span) : ∀ (o : List Span) (c c' : Int), Canon c o → (c' < x.fro ∨ c' ≤ c) → Canon c' (o.filterMap (piece x)) ∧ (∀ y ∈ o.filterMap (piece x), y.to ≤ x.to) ∧ ∀ t, memS t (o.filterMap (piece x)) ↔ (x.fro ≤ t ∧ t < x.to) ∧ memS t o
  | [], c, c', h, hc => ⟨trivial, by simp, fun t => by simp [memS]⟩
  | y :: o, c, c', h, hc => by
    have g1 := h.1
    have g2 := h.2.1
    have q1 := mxI_ok x.fro y.fro
    have q2 := mnI_ok x.to y.to
    cases hp : piece x y with
    | none =>
      rw [List.filterMap_cons_none hp]
      obtain ⟨k1, k2, k3⟩ := pieces_spec x o y.to c' h.2.2 (by omega)
      refine ⟨k1, k2, fun t => ?_⟩
      rw [k3 t]
      simp only [memS]
      unfold piece at hp
      split at hp
      · cases hp
      · rename_i hq
        constructor
        · exact fun h => ⟨h.1, .inr h.2⟩
        · rintro ⟨h1, h2 | h2⟩
          · exfalso
            omega
          · exact ⟨h1, h2⟩
    | some z =>
      rw [List.filterMap_cons_some hp]
      unfold piece at hp
      split at hp
      · rename_i hq
        cases hp
        obtain ⟨k1, k2, k3⟩ := pieces_spec x o y.to (mnI x.to y.to) h.2.2 (by omega)
        refine ⟨⟨?_, hq, k1⟩, fun w hw => ?_, fun t => ?_⟩
        · simp only
          omega
        · rcases List.mem_cons.1 hw with rfl | hw
          · simp only
            omega
          · exact k2 w hw
        · simp only [memS]
          rw [k3 t]
          constructor
          · rintro (h | h)
            · exact ⟨by omega, .inl (by omega)⟩
            · exact ⟨h.1, .inr h.2⟩
          · rintro ⟨h1, h2 | h2⟩
            · exact .inl (by omega)
            · exact .inr ⟨h1, h2⟩
      · cases hp
theorem both_spec : ∀ (a o : List Span) (lo c : Int), Canon lo a → Canon c o → Canon lo (bothR a o) ∧ ∀ t, memS t (bothR a o) ↔ memS t a ∧ memS t o
  | [], o, lo, c, h, ho => ⟨trivial, fun t => by simp [bothR, memS]⟩
  | x :: a, o, lo, c, h, ho => by
    have g1 := h.1
    have g2 := h.2.1
    obtain ⟨k1, k2, k3⟩ := pieces_spec x o c lo ho (.inl h.1)
    obtain ⟨m1, m2⟩ := both_spec a o x.to c h.2.2 ho
    have e : bothR (x :: a) o = o.filterMap (piece x) ++ bothR a o := rfl
    rw [e]
    refine ⟨canon_append k1 k2 (by omega) m1, fun t => ?_⟩
    rw [mem_append', k3 t, m2 t]
    simp only [memS]
    constructor
    · rintro (⟨h, h'⟩ | ⟨h, h'⟩)
      · exact ⟨.inl h, h'⟩
      · exact ⟨.inr h, h'⟩
    · rintro ⟨h | h, h'⟩
      · exact .inl ⟨h, h'⟩
      · exact .inr ⟨h, h'⟩
def minusR (a b : List Span) : List Span := bothR a (outR (-1152921504606846976) b)
/-! ### both ways agree -/
instance decMem (t : Int) : (l : List Span) → Decidable (memS t l)
  | [] => .isFalse id
  | x :: l => @instDecidableOr _ _ inferInstance (decMem t l)
def uni (a b : List Span) : List Span := go (fun p q => p || q) ⟨a, false⟩ ⟨b, false⟩ none
def min_ (a b : List Span) : List Span := go (fun p q => p && !q) ⟨a, false⟩ ⟨b, false⟩ none
theorem inv_start {l : List Span} (h : Canon (-1152921504606846977) l) : Sd.Inv ⟨l, false⟩ (-1152921504606846977) := by
  cases l with
  | nil => rfl
  | cons x l => exact ⟨by simp only [Bool.false_eq_true, if_false]; exact ⟨h.1, h.2.1⟩, h.2.2⟩
theorem mem_start {l : List Span} {t : Int} : Sd.mem ⟨l, false⟩ t ↔ memS t l := by
  cases l <;> simp [Sd.mem, memS]
theorem uni_spec {a b : List Span} (ha : Canon (-1152921504606846977) a) (hb : Canon (-1152921504606846977) b) : Canon (-1152921504606846977) (uni a b) ∧ ∀ t, memS t (uni a b) ↔ memS t a ∨ memS t b := by
  obtain ⟨k1, k2⟩ := go_spec (fun p q => p || q) rfl _ ⟨a, false⟩ ⟨b, false⟩ none (-1152921504606846977) (-1152921504606846977) (Nat.lt_succ_self _) (inv_start ha) (inv_start hb) rfl (fun s e => by cases e) (fun _ => Int.le_refl _)
  refine ⟨k1, fun t => ?_⟩
  show memS t (go _ _ _ _) ↔ _
  rw [k2 t]
  simp only [reduceCtorEq, false_and, exists_false, false_or, EE, mem_start, Bool.or_eq_true]
  constructor
  · rintro ⟨_, p, q, h1, h2, h3⟩
    rcases h3 with h3 | h3
    · exact .inl (h1.2 h3)
    · exact .inr (h2.2 h3)
  · intro h
    refine ⟨?_, _, _, (decide_eq_true_iff (p := memS t a)).symm, (decide_eq_true_iff (p := memS t b)).symm, ?_⟩
    · rcases h with h | h
      · have := canon_mem ha h; omega
      · have := canon_mem hb h; omega
    · rcases h with h | h
      · exact .inl (decide_eq_true h)
      · exact .inr (decide_eq_true h)
theorem min_spec {a b : List Span} (ha : Canon (-1152921504606846977) a) (hb : Canon (-1152921504606846977) b) : Canon (-1152921504606846977) (min_ a b) ∧ ∀ t, memS t (min_ a b) ↔ memS t a ∧ ¬ memS t b := by
  obtain ⟨k1, k2⟩ := go_spec (fun p q => p && !q) rfl _ ⟨a, false⟩ ⟨b, false⟩ none (-1152921504606846977) (-1152921504606846977) (Nat.lt_succ_self _) (inv_start ha) (inv_start hb) rfl (fun s e => by cases e) (fun _ => Int.le_refl _)
  refine ⟨k1, fun t => ?_⟩
  show memS t (go _ _ _ _) ↔ _
  rw [k2 t]
  simp only [reduceCtorEq, false_and, exists_false, false_or, EE, mem_start, Bool.and_eq_true, Bool.not_eq_true']
  constructor
  · rintro ⟨_, p, q, h1, h2, h3, h4⟩
    exact ⟨h1.2 h3, fun h => by rw [h2.1 h] at h4; cases h4⟩
  · intro h
    refine ⟨?_, _, _, (decide_eq_true_iff (p := memS t a)).symm, (decide_eq_true_iff (p := memS t b)).symm, decide_eq_true h.1, decide_eq_false h.2⟩
    have := canon_mem ha h.1
    omega
theorem top_mem {l : List Span} (ht : Top l) {b : Int} (h : Canon b l) {t : Int} (m : memS t l) : t < 1152921504606846976 := by
  induction l generalizing b with
  | nil => exact m.elim
  | cons x l ih =>
    rcases m with m | m
    · have := ht x (by simp); omega
    · exact ih (fun y hy => ht y (by simp [hy])) h.2.2 m
theorem mem_top {l : List Span} {b : Int} (h : Canon b l) (hm : ∀ t, memS t l → t < 1152921504606846976) : Top l := by
  induction l generalizing b with
  | nil => intro x hx; cases hx
  | cons x l ih =>
    intro y hy
    rcases List.mem_cons.1 hy with rfl | hy
    · have := h.2.1
      have := hm (y.to - 1) (.inl ⟨by omega, by omega⟩)
      omega
    · exact ih h.2.2 (fun t m => hm t (.inr m)) y hy
theorem uni_eq {a b : List Span} (ha : Canon (-1152921504606846977) a) (hb : Canon (-1152921504606846977) b) : unionR a b = uni a b := by
  obtain ⟨h1, h2⟩ := union_spec b a _ _ ha hb (Int.le_refl _)
  obtain ⟨k1, k2⟩ := uni_spec ha hb
  exact canon_unique h1 k1 fun t => (h2 t).trans (k2 t).symm
theorem min_eq {a b : List Span} (ha : Canon (-1152921504606846977) a) (hb : Canon (-1152921504606846977) b) (ta : Top a) (tb : Top b) : minusR a b = min_ a b := by
  obtain ⟨o1, o2⟩ := out_spec b (-1152921504606846976) (by rw [show (-1152921504606846976 : Int) - 1 = -1152921504606846977 by omega]; exact hb) tb
  obtain ⟨h1, h2⟩ := both_spec a _ _ _ ha o1
  obtain ⟨k1, k2⟩ := min_spec ha hb
  refine canon_unique h1 k1 fun t => (h2 t).trans (Iff.trans ?_ (k2 t).symm)
  rw [o2 t]
  constructor
  · exact fun h => ⟨h.1, h.2.2.2⟩
  · intro h
    have := canon_mem ha h.1
    exact ⟨h.1, by omega, top_mem ta ha h.1, h.2⟩
end Ab
