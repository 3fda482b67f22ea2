/- Parts of the proof: see the last text. -/
import Derived.Test.YthgemjameiibpaaDoorReN
import Derived.Test.YthgemjameiibpaaDoorAbBy
set_option linter.unusedVariables false
set_option linter.unusedSimpArgs false
namespace Ab
open Go
theorem byteAt_mk (l : List UInt8) (i : Nat) : byteAt (mkB l) i = ((l.getD i 0).toNat : Int) := by rw [byteAt_bl, bl_mk]
theorem extract_mk (l : List UInt8) (i j : Nat) : (mkB l).extract i j = mkB ((l.drop i).take (j - i)) := bl_inj (by rw [bl_extract, bl_mk, bl_mk])
theorem beq_empty (l : List UInt8) : (mkB l == ByteArray.mk #[]) = decide (l = []) := by
  rw [size_zero, mk_size]
  cases l <;> simp
theorem s71 (l : List UInt8) (hl : l.length ≤ 1000000) : Runs C 71 [.str (mkB l), .int .u8 0] [.str (mkB (l.dropWhile (· == 0)))] := by
  refine Runs.of (fun n => e71 n _ _) ?_
  refine while_overQ (fun (r : List UInt8) => [Tree.str (mkB r)]) (fun (s : List UInt8) => (([.t (.str (mkB s))], []) : List AV × Heap)) (fun s => match s with
    | [] => .done []
    | b :: s => if b = 0 then .next s else .done (b :: s)) (fun s => s.length ≤ 1000000) (fun s => s.length) (fun s => s.dropWhile (· == 0)) l rfl hl rfl
    (fun s hs => Ev.of fun n again => ?_) (fun s s' hI h => ?_) (fun s hI => ?_)
  · cases s with
    | nil => simp [L71_1, vv, mk_size, cnd_eq, Rd.go_done]
    | cons b s =>
      simp only [L71_1, vv, reduceCtorEq, Nat.reduceAdd, Nat.reduceEqDiff, mk_size, byteAt_mk, extract_mk]
      simp only [List.length_cons, List.getD_cons_zero, List.drop_succ_cons, List.drop_zero, Nat.add_sub_cancel, List.take_length, cnd_eq]
      by_cases hb : b = 0
      · subst hb
        simp [Rd.go_next]
        intro h; omega
      · have hbn : ¬ (b.toNat = 0) := fun h => hb (UInt8.toNat_inj.1 (by simpa using h))
        simp [hb, hbn, Rd.go_done]
  · cases s with
    | nil => simp at h
    | cons b s =>
      simp only at h
      split at h
      · simp only [Rd.next.injEq] at h
        subst h
        simp at hI ⊢
        omega
      · simp at h
  · cases s with
    | nil => rfl
    | cons b s => by_cases hb : b = 0 <;> simp [hb, Rd.fin, List.dropWhile_cons]
def trimR (l : List UInt8) : List UInt8 := (l.reverse.dropWhile (· == 0)).reverse
theorem trimR_snoc (l : List UInt8) (b : UInt8) : trimR (l ++ [b]) = if b = 0 then trimR l else l ++ [b] := by
  unfold trimR
  rw [List.reverse_append]
  simp only [List.reverse_cons, List.reverse_nil, List.nil_append, List.singleton_append, List.dropWhile_cons]
  by_cases hb : b = 0 <;> simp [hb]
theorem snoc_cases (l : List UInt8) : l = [] ∨ ∃ s b, l = s ++ [b] := by
  by_cases h : l = []
  · exact .inl h
  · exact .inr ⟨_, _, (List.dropLast_concat_getLast h).symm⟩
theorem s72 (l : List UInt8) (hl : l.length ≤ 1000000) : Runs C 72 [.str (mkB l), .int .u8 0] [.str (mkB (trimR l))] := by
  refine Runs.of (fun n => e72 n _ _) ?_
  refine while_overQ (fun (r : List UInt8) => [Tree.str (mkB r)]) (fun (s : List UInt8) => (([.t (.str (mkB s))], []) : List AV × Heap)) (fun s => if s.getLast? = some 0 then .next s.dropLast else .done s)
    (fun s => s.length ≤ 1000000) (fun s => s.length) trimR l rfl hl rfl
    (fun s hs => Ev.of fun n again => ?_) (fun s s' hI h => ?_) (fun s hI => ?_)
  · rcases snoc_cases s with rfl | ⟨s, b, rfl⟩
    · simp [L72_2, J72_1, vv, mk_size, cnd_eq, Rd.go_done]
    · have hs' : s.length + 1 ≤ 1000000 := by simpa using hs
      have e : w64 (((s.length + 1 : Nat) : Int) - 1) = (s.length : Int) := by rw [w64_pred (by omega) (by omega)]; simp
      simp only [L72_2, J72_1, vv, reduceCtorEq, Nat.reduceAdd, Nat.reduceEqDiff, mk_size, byteAt_mk, extract_mk, List.length_append, List.length_cons, List.length_nil, e]
      simp only [cnd_eq, List.getLast?_concat, Option.some.injEq, List.dropLast_concat, List.drop_zero, Int.toNat_natCast, Nat.sub_zero, List.take_left]
      have e2 : (s ++ [b]).getD s.length 0 = b := by simp [List.getD]
      rw [e2]
      by_cases hb : b = 0
      · subst hb
        simp [Rd.go_next]
        first | omega | (rw [if_pos (by omega), if_pos (by omega)])
      · have hbn : ¬ (b.toNat = 0) := fun h => hb (UInt8.toNat_inj.1 (by simpa using h))
        simp [hb, hbn, Rd.go_done]
        try omega
  · split at h
    · rename_i hg
      simp only [Rd.next.injEq] at h
      subst h
      have : s ≠ [] := fun e => by simp [e] at hg
      have h2 : s.length ≠ 0 := fun e => this (List.eq_nil_of_length_eq_zero e)
      simp only [List.length_dropLast]
      omega
    · simp at h
  · rcases snoc_cases s with rfl | ⟨s, b, rfl⟩
    · simp [Rd.fin, trimR]
    · rw [trimR_snoc]
      by_cases hb : b = 0 <;> simp [hb, Rd.fin]
def allZ (l : List UInt8) : Bool := l.all (· == 0)
theorem drop_allZ : ∀ (l : List UInt8), l.dropWhile (· == 0) = [] ↔ allZ l = true
  | [] => by simp [allZ]
  | b :: l => by
    have := drop_allZ l
    by_cases hb : b = 0
    · simp only [hb, List.dropWhile_cons, beq_self_eq_true, if_true, this, allZ, List.all_cons, Bool.true_and]
    · simp [hb, List.dropWhile_cons, allZ]
theorem trimR_allZ (l : List UInt8) : (trimR l).dropWhile (· == 0) = [] ↔ allZ l = true := by
  rw [drop_allZ]
  have h : ∀ k : Nat, ∀ l : List UInt8, l.length ≤ k → (allZ (trimR l) = true ↔ allZ l = true) := by
    intro k
    induction k with
    | zero => intro l hl; have : l = [] := List.eq_nil_of_length_eq_zero (by omega); subst this; simp [trimR]
    | succ k ih =>
      intro l hl
      rcases snoc_cases l with rfl | ⟨l, b, rfl⟩
      · simp [trimR]
      · rw [trimR_snoc]
        by_cases hb : b = 0
        · rw [if_pos hb, ih l (by simp at hl; omega)]
          simp [allZ, hb]
        · rw [if_neg hb]
  exact h _ l (Nat.le_refl _)
theorem drop_len (p : UInt8 → Bool) : ∀ l : List UInt8, (l.dropWhile p).length ≤ l.length
  | [] => Nat.le_refl _
  | b :: l => by
    rw [List.dropWhile_cons]
    have := drop_len p l
    split <;> simp only [List.length_cons] <;> omega
theorem J48t (n : Nat) (s : ByteArray) : J48_7 n s ([.t (.bool true)], []) = some [.str s] := by
  unfold J48_7
  exact cnd_pos rfl _ _
theorem J48f (n : Nat) (s t u : ByteArray) (h1 : apure C n 72 [.str s, .int .u8 0] = some [.str t]) (h2 : apure C n 71 [.str t, .int .u8 0] = some [.str u]) : J48_7 n s ([.t (.bool false)], []) = some [.str u] := by
  have e1 : byteAt (ByteArray.mk #[0]) 0 = 0 := by decide
  unfold J48_7
  rw [cnd_neg (show ¬ (vB ([AV.t (Tree.bool false)], []) 0 = true) from Bool.false_ne_true), e1, cnd_pos (by decide), h1, Option.bind_some, cnd_pos (by exact rfl), cnd_pos (by exact rfl)]
  have e2 : gS [Tree.str t] 0 = t := rfl
  rw [e2, h2, Option.bind_some, cnd_pos (by exact rfl), cnd_pos (by exact rfl)]
  rfl
theorem s48 (l : List UInt8) (hl : l.length ≤ 1000000) : ∃ t : List UInt8, (t = [] ↔ allZ l = true) ∧ Runs C 48 [.str (mkB l), .str (ByteArray.mk #[0])] [.str (mkB t)] := by
  by_cases h : l = []
  · subst h
    refine ⟨[], by simp [allZ], Runs.of (fun n => e48 n _) (Ev.of fun n => ?_)⟩
    have h1 : ∀ X Y : Option (List Tree), cnd ((mkB [] == ByteArray.mk #[]) = true) X Y = X := fun X Y => cnd_pos (by rw [beq_empty]; exact decide_eq_true rfl) X Y
    rw [join_eq, h1]
    exact J48t n (mkB [])
  · refine ⟨(trimR l).dropWhile (· == 0), trimR_allZ l, Runs.of (fun n => e48 n _) ?_⟩
    have hlen : (trimR l).length ≤ l.length := by
      unfold trimR
      rw [List.length_reverse]
      refine Nat.le_trans (drop_len _ _) (by rw [List.length_reverse]; exact Nat.le_refl _)
    refine ((s72 l hl).and (s71 (trimR l) (by omega))).mono fun n hh => ?_
    have h1 : ∀ X Y : Option (List Tree), cnd ((mkB l == ByteArray.mk #[]) = true) X Y = Y := fun X Y => cnd_neg (by rw [beq_empty, decide_eq_false h]; exact Bool.false_ne_true) X Y
    have h2 : (ByteArray.mk #[0] == ByteArray.mk #[]) = false := by decide
    rw [join_eq, h1, h2]
    exact J48f n _ _ _ hh.1 hh.2
end Ab

set_option linter.unusedVariables false
set_option linter.unusedSimpArgs false
namespace Ab
open Go

def RngR (r : Rcv) : Prop := (0 ≤ r.ses ∧ r.ses ≤ 1099511627776) ∧ (r.tot = -1 ∨ 1 ≤ r.tot ∧ r.tot ≤ 65536)
def KnR (r : Rcv) : Prop := chkL r.known = 0 ∧ (r.known = [] ↔ r.tot = -1) ∧ (r.known = [] ∨ 0 ≤ headFro r.known ∧ lastTo r.known ≤ r.tot)
def ZeroR (r : Rcv) : Prop := ∀ i, i < r.data.size → (bl r.data).getD i 0 ≠ 0 → memS i r.known
instance (r : Rcv) : Decidable (RngR r) := by unfold RngR; exact inferInstance
instance (r : Rcv) : Decidable (KnR r) := by unfold KnR; exact inferInstance
instance (r : Rcv) : Decidable (ZeroR r) := by unfold ZeroR; exact inferInstance
def sizR (t : Int) : Int := if 0 > t then 0 else t
def chkR (r : Rcv) : Int := if ¬ RngR r then 2 else if ¬ KnR r then 1 else if (r.data.size : Int) ≠ sizR r.tot then 10 else if ZeroR r then 0 else 24
theorem memS_any (t : Int) : ∀ (l : List Span), memS t l ↔ l.any (fun x => decide (x.fro ≤ t ∧ t < x.to)) = true
  | [] => by simp [memS]
  | x :: l => by
    simp only [memS, memS_any t l, List.any_cons, Bool.or_eq_true, decide_eq_true_eq]
theorem s50 (l : List Span) (t : Int) : Runs C 50 [.sl 2 (l.map Span.enc), tI t] [.bool (decide (chkL l = 0 ∧ memS t l))] := by
  refine Runs.of (fun n => e50 n _ _) ?_
  refine Ev.rw (s78 l) (fun n h => by simp only [h, vv, reduceCtorEq, Nat.reduceAdd, Nat.reduceEqDiff]; rfl) ?_
  by_cases hc : chkL l = 0
  · have hl := chkL_len hc
    have e : decide (chkL l = 0 ∧ memS t l) = l.any (fun x => decide (x.fro ≤ t ∧ t < x.to)) := by
      rw [Bool.eq_iff_iff, decide_eq_true_eq, ← memS_any]
      simp [hc]
    rw [e]
    simp only [hc, bne_self_eq_false, vv, reduceCtorEq, Nat.reduceAdd, Nat.reduceEqDiff]
    refine loop_overQ (fun (r : Bool) => [Tree.bool r]) l (fun i (_ : Unit) => (([.t (tI i)], []) : List AV × Heap)) (fun _ (_ : Unit) x => if (fun x : Span => decide (x.fro ≤ t ∧ t < x.to)) x = true then .done true else .next ()) (fun _ => false) (fun _ _ => True) () rfl trivial
      (runL_any _ 0 l) (fun i s x hx hI => Ev.of fun n again => ?_) (fun _ _ _ _ _ _ _ => trivial) (fun s hI => Ev.of fun n again => ?_)
    · have hi := lt_of_some hx
      simp only [L50_1, vv, reduceCtorEq, Nat.reduceAdd, Nat.reduceEqDiff, hx, Span.enc, (show (i : Int) < l.length by omega), w64_succ (show i < 4611686018427387904 by omega)]
      by_cases h1 : x.fro ≤ t <;> by_cases h2 : t < x.to <;> simp [h1, h2, cnd_eq, Rd.go_next, Rd.go_done]
    · simp only [L50_1, vv, reduceCtorEq, Nat.reduceAdd, Nat.reduceEqDiff, Int.lt_irrefl]
  · refine Ev.of fun n => ?_
    have : (chkL l != 0) = true := by simpa using hc
    simp [hc, this, cnd_eq]
theorem s49 (r : Rcv) (hr : RngR r) : Runs C 49 r.enc [.bool (decide (KnR r))] := by
  refine Runs.of (fun n => e49 n _ _ _ _) ?_
  refine (s78 r.known).mono fun n h => ?_
  simp only [h, vv, reduceCtorEq, Nat.reduceAdd, Nat.reduceEqDiff]
  unfold KnR
  by_cases h0 : r.tot < 0
  · have ht : r.tot = -1 := by rcases hr.2 with h | h <;> omega
    simp only [h0, vv, reduceCtorEq, Nat.reduceAdd, Nat.reduceEqDiff]
    by_cases hl : r.known = []
    · have : chkL ([] : List Span) = 0 := by decide
      simp [hl, ht, cnd_eq, this]
    · have : r.known.length ≠ 0 := fun e => hl (List.eq_nil_of_length_eq_zero e)
      have h2 : ¬ ((r.known.length : Int) = 0) := by omega
      simp [hl, ht, cnd_eq, h2]
  · have ht : r.tot ≠ -1 := by omega
    simp only [h0, vv, reduceCtorEq, Nat.reduceAdd, Nat.reduceEqDiff]
    by_cases hl : r.known = []
    · simp [hl, ht, cnd_eq]
    · obtain ⟨e1, e2⟩ := head_at hl
      obtain ⟨e3, e4⟩ := last_at hl
      have hlen : r.known.length ≠ 0 := fun e => hl (List.eq_nil_of_length_eq_zero e)
      by_cases hc : chkL r.known = 0
      · have hk := chkL_len hc
        simp only [(show (0 : Int) < r.known.length by omega), hc, beq_self_eq_true, vv, reduceCtorEq, Nat.reduceAdd, Nat.reduceEqDiff, e1, e2, e4, Span.enc, w64_pred (show r.known.length < 4611686018427387904 by omega) (by omega), e3]
        simp only [hl, ht, false_or, iff_false, not_false_eq_true, true_and, vv, reduceCtorEq, Nat.reduceAdd, Nat.reduceEqDiff, cnd_eq]
        by_cases h3 : 0 ≤ (r.known.head hl).fro <;> simp [h3]
      · have : (chkL r.known == 0) = false := by simpa using hc
        simp only [(show (0 : Int) < r.known.length by omega), this, vv, reduceCtorEq, Nat.reduceAdd, Nat.reduceEqDiff]
        simp [hc, cnd_eq]
theorem runL_idxT {α Q : Type} (p : Nat → α → Bool) (a b : Q) : ∀ (l : List α) (i : Nat), (∀ k x, l[k]? = some x → p (i + k) x = true) → runL (fun i (_ : Unit) x => if p i x = true then .next () else .done a) (fun _ => b) i l () = b
  | [], i, _ => rfl
  | x :: l, i, h => by
    have h0 := h 0 x rfl
    simp only [Nat.add_zero] at h0
    simp only [runL, h0, if_true]
    refine runL_idxT p a b l (i + 1) fun k y hy => ?_
    have := h (k + 1) y (by simpa using hy)
    rwa [show i + (k + 1) = i + 1 + k by omega] at this
theorem runL_idxF {α Q : Type} (p : Nat → α → Bool) (a b : Q) : ∀ (l : List α) (i k : Nat) (x : α), l[k]? = some x → p (i + k) x = false → runL (fun i (_ : Unit) x => if p i x = true then .next () else .done a) (fun _ => b) i l () = a
  | [], i, k, x, hx, _ => by simp at hx
  | y :: l, i, k, x, hx, h => by
    by_cases hp : p i y = true
    · simp only [runL, hp, if_true]
      cases k with
      | zero => simp at hx; subst hx; simp [hp] at h
      | succ k => exact runL_idxF p a b l (i + 1) k x (by simpa using hx) (by rwa [show i + 1 + k = i + (k + 1) by omega])
    · simp only [runL, hp, if_false, Bool.false_eq_true]
theorem getD_at {l : List UInt8} {k : Nat} {x : UInt8} (h : l[k]? = some x) : l.getD k 0 = x := by simp [List.getD, h]
theorem s17 (r : Rcv) : Runs C 17 r.enc [tI (chkR r)] := by
  refine Runs.of (fun n => e17 n _ _ _ _) ?_
  unfold chkR
  by_cases hr : RngR r
  · have hr' := hr
    obtain ⟨⟨h1, h2⟩, h3⟩ := hr
    have hj : ∀ (J : List AV × Heap → Option (List Tree)), (cnd (decide (r.ses < 0) = true) (J ([AV.t (Tree.bool true)], [])) (cnd (decide (r.ses > 1099511627776) = true) (J ([AV.t (Tree.bool true)], [])) (cnd ((r.tot != -1) = true) (cnd (decide (r.tot < 1) = true) (J ([AV.t (Tree.bool true)], [])) (J ([AV.t (Tree.bool (decide (r.tot > 65536)))], []))) (J ([AV.t (Tree.bool false)], []))))) = J ([AV.t (Tree.bool false)], []) := fun J => by
      simp only [cnd_eq, decide_eq_true_eq, bne_iff_ne]
      rw [if_neg (by omega), if_neg (by omega)]
      split
      · rw [if_neg (by omega), decide_eq_false (by omega)]
      · rfl
    simp only [join_eq]
    refine Ev.conv' (fun n h => (hj _).trans h) ?_
    simp only [J17_2, vv, reduceCtorEq, Nat.reduceAdd, Nat.reduceEqDiff]
    refine Ev.rw (s49 r hr') (fun n h => by simp only [Rcv.enc] at h; simp only [h, vv, reduceCtorEq, Nat.reduceAdd, Nat.reduceEqDiff]; rfl) ?_
    rw [if_neg (not_not_intro hr')]
    by_cases hk : KnR r
    · simp only [hk, decide_true, Bool.not_true, vv, reduceCtorEq, Nat.reduceAdd, Nat.reduceEqDiff]
      rw [if_neg (not_not_intro trivial)]
      by_cases hs : (r.data.size : Int) = sizR r.tot
      · have hb : ((r.data.size : Int) != if 0 > r.tot then 0 else r.tot) = false := by simpa [sizR] using hs
        have hsz : r.data.size ≤ 65536 := by unfold sizR at hs; split at hs <;> omega
        rw [if_neg (not_not_intro hs)]
        simp only [hb, vv, reduceCtorEq, Nat.reduceAdd, Nat.reduceEqDiff]
        refine loop_overQ (fun (r : Int) => [tI r]) (bl r.data) (fun i (_ : Unit) => (([.t (tI i)], []) : List AV × Heap)) (fun i (_ : Unit) x => if (fun (i : Nat) (x : UInt8) => decide (x ≠ 0 → memS i r.known)) i x = true then .next () else .done 24) (fun _ => 0) (fun _ _ => True) () rfl trivial
          ?_ (fun i s x hx hI => ?_) (fun _ _ _ _ _ _ _ => trivial) (fun s hI => Ev.of fun n again => ?_)
        · by_cases hz : ZeroR r
          · rw [if_pos hz]
            refine runL_idxT _ _ _ _ _ fun k x hx => ?_
            simp only [Nat.zero_add, decide_eq_true_eq]
            intro hx0
            refine hz k (by rw [← bl_len]; exact lt_of_some hx) ?_
            rw [getD_at hx]
            exact hx0
          · rw [if_neg hz]
            unfold ZeroR at hz
            simp only [Classical.not_forall] at hz
            obtain ⟨k, hk1, hk2, hk3⟩ := hz
            obtain ⟨x, hx⟩ : ∃ x, (bl r.data)[k]? = some x := ⟨(bl r.data)[k]'(by rw [bl_len]; exact hk1), List.getElem?_eq_getElem _⟩
            rw [getD_at hx] at hk2
            refine runL_idxF _ _ _ _ _ k x hx ?_
            simp only [Nat.zero_add, decide_eq_false_iff_not]
            exact fun h => hk3 (h hk2)
        · have hi := lt_of_some hx
          rw [bl_len] at hi
          refine (s50 r.known i).mono fun n h again => ?_
          simp only [L17_1, vv, reduceCtorEq, Nat.reduceAdd, Nat.reduceEqDiff, h, byteAt_bl, getD_at hx, (show (i : Int) < r.data.size by omega), w64_succ (show i < 4611686018427387904 by omega), hk.1]
          by_cases hx0 : x = 0
          · subst hx0
            simp [cnd_eq, Rd.go_next]
          · have hx1 : ¬ (x.toNat = 0) := fun h => hx0 (UInt8.toNat_inj.1 (by simpa using h))
            by_cases hm : memS i r.known
            · simp [cnd_eq, hx0, hx1, hm, Rd.go_next]
            · simp [cnd_eq, hx0, hx1, hm, Rd.go_done]
        · simp only [L17_1, vv, reduceCtorEq, Nat.reduceAdd, Nat.reduceEqDiff, bl_len, Int.lt_irrefl]
      · have hb : ((r.data.size : Int) != if 0 > r.tot then 0 else r.tot) = true := by simpa [sizR] using hs
        rw [if_pos hs]
        simp only [hb, vv, reduceCtorEq, Nat.reduceAdd, Nat.reduceEqDiff]
        exact Ev.of fun n => by first | rfl | trivial
    · simp only [hk, decide_false, Bool.not_false, vv, reduceCtorEq, Nat.reduceAdd, Nat.reduceEqDiff]
      exact Ev.of fun n => by first | rfl | trivial
  · rw [if_pos hr]
    refine Ev.of fun n => ?_
    unfold RngR at hr
    simp only [join_eq, J17_2, vv, reduceCtorEq, Nat.reduceAdd, Nat.reduceEqDiff, cnd_eq, bne_iff_ne]
    by_cases h1 : r.ses < 0
    · simp [h1]
    · by_cases h2 : 1099511627776 < r.ses
      · simp [h1, h2]
      · have h3 : r.tot ≠ -1 := by omega
        simp only [h1, h2, if_false, h3, ne_eq, not_false_eq_true, if_true]
        by_cases h4 : r.tot < 1
        · simp [h4]
        · simp [h4, show 65536 < r.tot by omega]
end Ab

set_option linter.unusedVariables false
set_option linter.unusedSimpArgs false
namespace Ab
open Go

def gapStep (D : List UInt8) (_ : Nat) (a : Int) (x : Span) : Rd Int Int := if allZ ((D.drop a.toNat).take (x.fro.toNat - a.toNat)) = true then .next x.to else .done 24
def gapFin (D : List UInt8) (a : Int) : Int := if allZ (D.drop a.toNat) = true then 0 else 24
theorem allZ_iff (l : List UInt8) : allZ l = true ↔ ∀ k, k < l.length → l.getD k 0 = 0 := by
  unfold allZ
  rw [List.all_eq_true]
  constructor
  · intro h k hk
    have : l.getD k 0 = l[k] := by simp [List.getD, hk]
    rw [this]
    simpa using h _ (List.getElem_mem hk)
  · intro h x hx
    obtain ⟨k, hk, rfl⟩ := List.getElem_of_mem hx
    have := h k hk
    have e : l.getD k 0 = l[k] := by simp [List.getD, hk]
    rw [e] at this
    simp [this]
theorem allZ_part (D : List UInt8) (a b : Nat) (hb : b ≤ D.length) : allZ ((D.drop a).take (b - a)) = true ↔ ∀ k, a ≤ k → k < b → D.getD k 0 = 0 := by
  rw [allZ_iff]
  have hg : ∀ k, k < b - a → ((D.drop a).take (b - a)).getD k 0 = D.getD (a + k) 0 := fun k hk => by
    simp [List.getD_eq_getElem?_getD, List.getElem?_take, hk, List.getElem?_drop]
  constructor
  · intro h k h1 h2
    have := h (k - a) (by simp; omega)
    rw [hg _ (by omega), show a + (k - a) = k by omega] at this
    exact this
  · intro h k hk
    simp at hk
    rw [hg k (by omega)]
    exact h _ (by omega) (by omega)
theorem gap_run (D : List UInt8) : ∀ (l : List Span) (i : Nat) (a : Int), Canon (a - 1) l → Within l D.length → 0 ≤ a → a ≤ D.length →
    (runL (gapStep D) (gapFin D) i l a = 0 ∧ (∀ k : Nat, a ≤ k → k < D.length → D.getD k 0 ≠ 0 → memS k l)) ∨ (runL (gapStep D) (gapFin D) i l a = 24 ∧ ∃ k : Nat, a ≤ k ∧ k < D.length ∧ D.getD k 0 ≠ 0 ∧ ¬ memS k l)
  | [], i, a, hc, hw, h0, h1 => by
    simp only [runL, gapFin]
    have key := allZ_part D a.toNat D.length (Nat.le_refl _)
    rw [List.take_of_length_le (by simp)] at key
    by_cases h : allZ (D.drop a.toNat) = true
    · rw [if_pos h]
      exact .inl ⟨rfl, fun k h2 h3 h4 => (h4 (key.1 h k (by omega) h3)).elim⟩
    · rw [if_neg h]
      refine .inr ⟨rfl, ?_⟩
      have h5 : ¬ ∀ k, a.toNat ≤ k → k < D.length → D.getD k 0 = 0 := fun hh => h (key.2 hh)
      simp only [Classical.not_forall] at h5
      obtain ⟨k, h6, h7, h8⟩ := h5
      exact ⟨k, by omega, h7, h8, fun h => h⟩
  | x :: l, i, a, hc, hw, h0, h1 => by
    obtain ⟨c1, c2, c3⟩ := hc
    have hx := hw x (List.mem_cons_self)
    have key := allZ_part D a.toNat x.fro.toNat (by omega)
    simp only [runL]
    by_cases h : allZ ((D.drop a.toNat).take (x.fro.toNat - a.toNat)) = true
    · simp only [gapStep, h, if_true]
      have ih := gap_run D l (i + 1) x.to (canon_weak c3 (by omega)) (fun y hy => hw y (List.mem_cons_of_mem _ hy)) (by omega) (by omega)
      have hz := key.1 h
      rcases ih with ⟨e, ih⟩ | ⟨e, k, k1, k2, k3, k4⟩
      · refine .inl ⟨e, fun k k1 k2 k3 => ?_⟩
        by_cases hk : (k : Int) < x.fro
        · exact (k3 (hz k (by omega) (by omega))).elim
        · by_cases hk2 : (k : Int) < x.to
          · exact .inl ⟨by omega, hk2⟩
          · exact .inr (ih k (by omega) k2 k3)
      · refine .inr ⟨e, k, by omega, k2, k3, fun hm => ?_⟩
        rcases hm with hm | hm
        · omega
        · exact k4 hm
    · simp only [gapStep, h, if_false, Bool.false_eq_true]
      refine .inr ⟨trivial, ?_⟩
      have h5 : ¬ ∀ k, a.toNat ≤ k → k < x.fro.toNat → D.getD k 0 = 0 := fun hh => h (key.2 hh)
      simp only [Classical.not_forall] at h5
      obtain ⟨k, h6, h7, h8⟩ := h5
      refine ⟨k, by omega, by omega, h8, fun hm => ?_⟩
      rcases hm with hm | hm
      · omega
      · have := canon_mem c3 hm
        omega
theorem s16 (r : Rcv) : Runs C 16 r.enc [tI (chkR r)] := by
  refine Runs.of (fun n => e16 n _ _ _ _) ?_
  unfold chkR
  by_cases hr : RngR r
  · have hr' := hr
    obtain ⟨⟨h1, h2⟩, h3⟩ := hr
    have hj : ∀ (J : List AV × Heap → Option (List Tree)), (cnd (decide (r.ses < 0) = true) (J ([AV.t (Tree.bool true)], [])) (cnd (decide (r.ses > 1099511627776) = true) (J ([AV.t (Tree.bool true)], [])) (cnd ((r.tot != -1) = true) (cnd (decide (r.tot < 1) = true) (J ([AV.t (Tree.bool true)], [])) (J ([AV.t (Tree.bool (decide (r.tot > 65536)))], []))) (J ([AV.t (Tree.bool false)], []))))) = J ([AV.t (Tree.bool false)], []) := fun J => by
      simp only [cnd_eq, decide_eq_true_eq, bne_iff_ne]
      rw [if_neg (by omega), if_neg (by omega)]
      split
      · rw [if_neg (by omega), decide_eq_false (by omega)]
      · rfl
    simp only [join_eq]
    refine Ev.conv' (fun n h => (hj _).trans h) ?_
    simp only [J16_4, vv, reduceCtorEq, Nat.reduceAdd, Nat.reduceEqDiff]
    refine Ev.rw (s46 r.known) (fun n h => by simp only [h, vv, reduceCtorEq, Nat.reduceAdd, Nat.reduceEqDiff]; rfl) ?_
    rw [if_neg (not_not_intro hr')]
    have el : (r.known.length : Int) = 0 ↔ r.known = [] := by
      rw [← List.length_eq_zero_iff]; omega
    have eb : ((r.known.length : Int) == 0) = decide (r.known = []) := by
      rw [Bool.eq_iff_iff, beq_iff_eq, decide_eq_true_eq, el]
    have eb2 : (r.tot == -1) = decide (r.tot = -1) := by rw [Bool.eq_iff_iff, beq_iff_eq, decide_eq_true_eq]
    simp only [eb, eb2]
    by_cases hc : chkL r.known = 0
    · simp only [hc, bne_self_eq_false, vv, reduceCtorEq, Nat.reduceAdd, Nat.reduceEqDiff, J16_3]
      by_cases he : (r.known = [] ↔ r.tot = -1)
      · have e1 : (! (decide (r.known = []) == decide (r.tot = -1))) = false := by
          by_cases hx : r.known = []
          · simp [hx, he.1 hx]
          · have hy : ¬ r.tot = -1 := fun h => hx (he.2 h)
            simp [hx, hy]
        simp only [e1, vv, reduceCtorEq, Nat.reduceAdd, Nat.reduceEqDiff]
        have hkn : KnR r ↔ (r.known = [] ∨ 0 ≤ headFro r.known ∧ lastTo r.known ≤ r.tot) := ⟨fun h => h.2.2, fun h => ⟨hc, he, h⟩⟩
        have hstep : ∀ (J : List AV × Heap → Option (List Tree)), (cnd (0 < (r.known.length : Int)) (Option.bind (Option.map Span.enc r.known[0]?) fun y11 => cnd (okI y11 0) (cnd (gI y11 0 < 0) (J ([AV.t (Tree.bool true)], [])) (cnd (0 ≤ w64 ((r.known.length : Int) - 1)) (Option.bind (Option.map Span.enc r.known[(w64 ((r.known.length : Int) - 1)).toNat]?) fun y12 => cnd (okI y12 1) (J ([AV.t (Tree.bool (decide (r.tot < gI y12 1)))], [])) none) none)) none) (J ([AV.t (Tree.bool false)], []))) = J ([AV.t (Tree.bool (decide (¬ KnR r)))], []) := fun J => by
          by_cases hl : r.known = []
          · have : KnR r := hkn.2 (.inl hl)
            simp [hl, cnd_eq, this]
          · obtain ⟨e1, e2⟩ := head_at hl
            obtain ⟨e3, e4⟩ := last_at hl
            have hk := chkL_len hc
            have hlen : r.known.length ≠ 0 := fun e => hl (List.eq_nil_of_length_eq_zero e)
            simp only [(show (0 : Int) < r.known.length by omega), vv, reduceCtorEq, Nat.reduceAdd, Nat.reduceEqDiff, e1, w64_pred (show r.known.length < 4611686018427387904 by omega) (by omega), e3, Span.enc]
            rw [← e2, ← e4]
            by_cases h3 : headFro r.known < 0
            · have : ¬ KnR r := fun h => by rcases hkn.1 h with h | h; exact hl h; omega
              simp [h3, this, cnd_eq]
            · by_cases h4 : r.tot < lastTo r.known
              · have : ¬ KnR r := fun h => by rcases hkn.1 h with h | h; exact hl h; omega
                simp [h3, h4, this, cnd_eq]
              · have : KnR r := hkn.2 (.inr ⟨by omega, by omega⟩)
                simp [h3, h4, this, cnd_eq]
        refine Ev.conv' (fun n h => (hstep _).trans h) ?_
        simp only [J16_2, vv, reduceCtorEq, Nat.reduceAdd, Nat.reduceEqDiff]
        by_cases hk : KnR r
        · simp only [hk, not_true_eq_false, vv, reduceCtorEq, Nat.reduceAdd, Nat.reduceEqDiff]
          by_cases hs : (r.data.size : Int) = sizR r.tot
          · have hb : ((r.data.size : Int) != if 0 > r.tot then 0 else r.tot) = false := by simpa [sizR] using hs
            have hsz : r.data.size ≤ 65536 := by unfold sizR at hs; split at hs <;> omega
            rw [if_neg (not_not_intro hs)]
            simp only [gt_iff_lt] at hb
            simp only [hb, vv, reduceCtorEq, Nat.reduceAdd, Nat.reduceEqDiff]
            have hW : Within r.known (bl r.data).length := by
              have hw := (inside_iff hc).1 hk.2.2
              rw [bl_len, hs]
              intro x hx
              have := hw x hx
              unfold sizR
              split
              · have ht : r.tot = -1 := by omega
                have := he.2 ht
                rw [this] at hx
                cases hx
              · exact this
            have hC : Canon (0 - 1) r.known := by
              have h := ((chkL_iff r.known).1 hc).2.1
              cases hkk : r.known with
              | nil => trivial
              | cons x l =>
                rw [hkk] at h
                refine ⟨?_, h.2.1, h.2.2⟩
                have := hW x (by rw [hkk]; exact List.mem_cons_self)
                omega
            have hlen := chkL_len hc
            have hd : r.data = mkB (bl r.data) := (mk_bl _).symm
            refine loop_overQ (fun (r : Int) => [tI r]) r.known (fun i (a : Int) => (([.t (tI i)], [.box [.t (tI a)]]) : List AV × Heap)) (gapStep (bl r.data)) (gapFin (bl r.data)) (fun i a => Canon (a - 1) (r.known.drop i) ∧ 0 ≤ a ∧ a ≤ r.data.size) 0 rfl ⟨by simpa using hC, by omega, by omega⟩
              ?_ (fun i a x hx hI => ?_) (fun i a x a' hx hI h => ?_) (fun a hI => ?_)
            · rcases gap_run (bl r.data) r.known 0 0 hC hW (by omega) (by omega) with ⟨e, h⟩ | ⟨e, k, k1, k2, k3, k4⟩
              · rw [e, if_pos]
                intro i hi hi2
                exact h i (by omega) (by rw [bl_len]; exact hi) hi2
              · rw [e, if_neg]
                intro h
                exact k4 (h k (by rw [bl_len] at k2; exact k2) k3)
            · have hi := lt_of_some hx
              have hdr : r.known.drop i = x :: r.known.drop (i + 1) := by rw [List.drop_eq_getElem_cons hi]; congr 1; rw [List.getElem?_eq_getElem hi] at hx; exact Option.some.inj hx
              obtain ⟨c1, c2, c3⟩ := hI
              rw [hdr] at c1
              have hx2 := hW x (List.mem_of_getElem? hx)
              rw [bl_len] at hx2
              obtain ⟨t, ht, h48⟩ := s48 (((bl r.data).drop a.toNat).take (x.fro.toNat - a.toNat)) (by simp; rw [bl_len]; omega)
              refine h48.mono fun n h again => ?_
              have hxc := c1.1
              have he : r.data.extract a.toNat x.fro.toNat = mkB (((bl r.data).drop a.toNat).take (x.fro.toNat - a.toNat)) := by
                apply bl_inj; rw [bl_extract, bl_mk]
              simp only [L16_1, vv, reduceCtorEq, Nat.reduceAdd, Nat.reduceEqDiff, hx, Span.enc, (show (i : Int) < r.known.length by omega), w64_succ (show i < 4611686018427387904 by omega)]
              rw [cnd_pos (by have := c1.2.1; omega), cnd_pos (by omega), he, h]
              simp only [vv, reduceCtorEq, Nat.reduceAdd, Nat.reduceEqDiff, beq_empty, gapStep, ← ht]
              by_cases htt : t = [] <;> simp [htt, cnd_eq, Rd.go_next, Rd.go_done]
            · have hi := lt_of_some hx
              have hdr : r.known.drop i = x :: r.known.drop (i + 1) := by rw [List.drop_eq_getElem_cons hi]; congr 1; rw [List.getElem?_eq_getElem hi] at hx; exact Option.some.inj hx
              obtain ⟨c1, c2, c3⟩ := hI
              rw [hdr] at c1
              have hx2 := hW x (List.mem_of_getElem? hx)
              rw [bl_len] at hx2
              unfold gapStep at h
              split at h
              · simp only [Rd.next.injEq] at h
                subst h
                have := c1.2.1
                have := c1.1
                exact ⟨canon_weak c1.2.2 (by omega), by omega, by omega⟩
              · cases h
            · obtain ⟨c1, c2, c3⟩ := hI
              obtain ⟨t, ht, h48⟩ := s48 ((bl r.data).drop a.toNat) (by simp; rw [bl_len]; omega)
              refine h48.mono fun n h again => ?_
              have he : r.data.extract a.toNat r.data.size = mkB ((bl r.data).drop a.toNat) := by
                apply bl_inj; rw [bl_extract, bl_mk, List.take_of_length_le (by simp; rw [bl_len]; omega)]
              simp only [L16_1, vv, reduceCtorEq, Nat.reduceAdd, Nat.reduceEqDiff, Int.lt_irrefl]
              rw [cnd_pos (by omega), cnd_pos (by omega), he, h]
              simp only [vv, reduceCtorEq, Nat.reduceAdd, Nat.reduceEqDiff, beq_empty, gapFin, ← ht]
              by_cases htt : t = [] <;> simp [htt, cnd_eq]
          · have hb : ((r.data.size : Int) != if 0 > r.tot then 0 else r.tot) = true := by simpa [sizR] using hs
            rw [if_pos hs]
            simp only [gt_iff_lt] at hb
            simp only [hb, vv, reduceCtorEq, Nat.reduceAdd, Nat.reduceEqDiff]
            exact Ev.of fun n => by first | rfl | trivial
        · simp only [hk, not_false_eq_true, vv, reduceCtorEq, Nat.reduceAdd, Nat.reduceEqDiff]
          exact Ev.of fun n => by first | rfl | trivial
      · have e1 : (! (decide (r.known = []) == decide (r.tot = -1))) = true := by
          by_cases hx : r.known = [] <;> by_cases hy : r.tot = -1 <;> simp_all
        have : ¬ KnR r := fun h => he h.2.1
        simp only [e1, this, not_false_eq_true, vv, reduceCtorEq, Nat.reduceAdd, Nat.reduceEqDiff]
        exact Ev.of fun n => by first | rfl | trivial
    · have : (chkL r.known != 0) = true := by simpa using hc
      have h2 : ¬ KnR r := fun h => hc h.1
      simp only [this, h2, J16_3, not_false_eq_true, vv, reduceCtorEq, Nat.reduceAdd, Nat.reduceEqDiff]
      exact Ev.of fun n => by first | rfl | trivial
  · rw [if_pos hr]
    refine Ev.of fun n => ?_
    unfold RngR at hr
    simp only [join_eq, J16_4, vv, reduceCtorEq, Nat.reduceAdd, Nat.reduceEqDiff, cnd_eq, bne_iff_ne]
    by_cases h1 : r.ses < 0
    · simp [h1]
    · by_cases h2 : 1099511627776 < r.ses
      · simp [h1, h2]
      · have h3 : r.tot ≠ -1 := by omega
        simp only [h1, h2, if_false, h3, ne_eq, not_false_eq_true, if_true]
        by_cases h4 : r.tot < 1
        · simp [h4]
        · simp [h4, show 65536 < r.tot by omega]
end Ab

set_option linter.unusedVariables false
set_option linter.unusedSimpArgs false
namespace Ab
open Go

def sp (x : Seg) : Span := ⟨x.off, x.off + x.data.size⟩
theorem chkG_zero {x : Seg} (h : chkG x = 0) : (1 ≤ x.kind ∧ x.kind ≤ 3) ∧ SegNum x ∧ SegCon x := by
  unfold chkG at h
  split at h
  · omega
  · rename_i h1
    split at h
    · omega
    · rename_i h2
      split at h
      · omega
      · rename_i h3
        exact ⟨Classical.not_not.1 h1, Classical.not_not.1 h2, Classical.not_not.1 h3⟩
theorem seg_bounds {x : Seg} (h : chkG x = 0) : 0 ≤ x.off ∧ x.off ≤ 65536 ∧ x.data.size ≤ 16 ∧ 0 ≤ x.tot ∧ x.tot ≤ 65536 := by
  obtain ⟨hk, hn, hc⟩ := chkG_zero h
  unfold SegNum at hn
  unfold SegCon at hc
  by_cases h1 : x.kind = 1
  · grind
  · by_cases h2 : x.kind = 2
    · grind
    · have : x.kind = 3 := by omega
      grind
theorem seg_data {x : Seg} (h : chkG x = 0) (h1 : x.kind = 1) : 1 ≤ x.tot ∧ x.tot ≤ 65536 ∧ 0 ≤ x.off ∧ 1 ≤ x.data.size ∧ x.data.size ≤ 16 ∧ x.off + x.data.size ≤ x.tot ∧ x.claims = [] ∧ (x.chk = true → 1 ≤ x.ser ∧ x.ser ≤ 1099511627776) ∧ 0 ≤ x.ses ∧ x.ses ≤ 1099511627776 := by
  obtain ⟨hk, hn, hc⟩ := chkG_zero h
  unfold SegNum at hn
  unfold SegCon at hc
  grind
theorem s40 (r : Rcv) (x : Seg) (hx : chkG x = 0) : Runs C 40 (r.enc ++ x.enc) [.sl 2 ((unionL r.known [sp x]).map Span.enc), tI (unionE r.known [sp x])] := by
  obtain ⟨h1, h2, h3, _⟩ := seg_bounds hx
  refine Runs.of (fun n => e40 n _ _ _ _ _ _ _ _ _ _ _ _) ?_
  refine (s66 r.known [sp x]).mono fun n h => ?_
  rw [unionP_eq] at h
  simp only [List.map_cons, List.map_nil, sp, Span.enc] at h
  rw [w64_id (x := x.off + (x.data.size : Int)) (by omega) (by omega)]
  simp only [h, vv, reduceCtorEq, Nat.reduceAdd, Nat.reduceEqDiff]
  rfl
theorem list_get_ext {a b : List UInt8} (h : a.length = b.length) : a = b ↔ ∀ k, k < a.length → a.getD k 0 = b.getD k 0 := by
  constructor
  · intro e k _; rw [e]
  · intro hk
    apply List.ext_getElem h
    intro i h1 h2
    have := hk i h1
    simpa [List.getD, h1, h2] using this
theorem part_get (D : List UInt8) (a b k : Nat) (hb : b ≤ D.length) (hk : k < b - a) : ((D.drop a).take (b - a)).getD k 0 = D.getD (a + k) 0 := by
  simp [List.getD_eq_getElem?_getD, List.getElem?_take, hk, List.getElem?_drop]
theorem part_eq (D E : List UInt8) (f t o : Nat) (h1 : f < t) (h2 : t ≤ D.length) (h3 : o ≤ f) (h4 : t - o ≤ E.length) :
    ((D.drop f).take (t - f) = (E.drop (f - o)).take ((t - o) - (f - o)) ↔ ∀ k, f ≤ k → k < t → D.getD k 0 = E.getD (k - o) 0) := by
  rw [list_get_ext (by simp; omega)]
  constructor
  · intro h k k1 k2
    have := h (k - f) (by simp; omega)
    rw [part_get D f t _ h2 (by omega), part_get E (f - o) (t - o) _ h4 (by omega), show f + (k - f) = k by omega, show f - o + (k - f) = k - o by omega] at this
    exact this
  · intro h k hk
    simp at hk
    rw [part_get D f t _ h2 (by omega), part_get E (f - o) (t - o) _ h4 (by omega), show f - o + k = f + k - o by omega]
    exact h _ (by omega) (by omega)
def agree (r : Rcv) (x : Seg) : Prop := ∀ i, i < x.data.size → memS (x.off + i) r.known → (bl r.data).getD (x.off.toNat + i) 0 = (bl x.data).getD i 0
def spanOk (r : Rcv) (x : Seg) (k : Span) : Prop := ∀ i, i < x.data.size → k.fro ≤ x.off + i → x.off + i < k.to → (bl r.data).getD (x.off.toNat + i) 0 = (bl x.data).getD i 0
instance (r : Rcv) (x : Seg) : Decidable (agree r x) := by unfold agree; exact inferInstance
instance (r : Rcv) (x : Seg) (k : Span) : Decidable (spanOk r x k) := by unfold spanOk; exact inferInstance
def suits (r : Rcv) (x : Seg) : Bool := decide (x.kind = 1 ∧ x.ses = r.ses ∧ (r.tot = -1 ∨ x.tot = r.tot) ∧ agree r x ∧ unionE r.known [sp x] = 0)
theorem agree_all (r : Rcv) (x : Seg) : agree r x ↔ r.known.all (fun k => decide (spanOk r x k)) = true := by
  have hm : ∀ (t : Int) (l : List Span), memS t l ↔ ∃ k ∈ l, k.fro ≤ t ∧ t < k.to := by
    intro t l
    induction l with
    | nil => simp [memS]
    | cons y l ih => simp only [memS, ih, List.mem_cons, exists_eq_or_imp]
  rw [List.all_eq_true]
  simp only [decide_eq_true_eq]
  unfold agree spanOk
  constructor
  · intro h k hk i hi h1 h2
    exact h i hi ((hm _ _).2 ⟨k, hk, h1, h2⟩)
  · intro h i hi hmem
    obtain ⟨k, hk, h1, h2⟩ := (hm _ _).1 hmem
    exact h k hk i hi h1 h2
theorem chkR_zero {r : Rcv} (h : chkR r = 0) : RngR r ∧ KnR r ∧ (r.data.size : Int) = sizR r.tot ∧ ZeroR r := by
  unfold chkR at h
  split at h
  · omega
  · rename_i h1
    split at h
    · omega
    · rename_i h2
      split at h
      · omega
      · rename_i h3
        split at h
        · rename_i h4
          exact ⟨Classical.not_not.1 h1, Classical.not_not.1 h2, Classical.not_not.1 h3, h4⟩
        · omega
theorem rcv_within {r : Rcv} (h : chkR r = 0) : Within r.known r.data.size := by
  obtain ⟨h1, h2, h3, h4⟩ := chkR_zero h
  have hw := (inside_iff h2.1).1 h2.2.2
  rw [h3]
  intro x hx
  have := hw x hx
  unfold sizR
  split
  · have ht : r.tot = -1 := by rcases h1.2 with h | h <;> omega
    have := h2.2.1.2 ht
    rw [this] at hx
    cases hx
  · exact this
theorem canon_pos {l : List Span} {b : Int} (h : Canon b l) : ∀ y ∈ l, y.fro < y.to := fun y hy => (canon_to h y hy).2
theorem inner39 (r : Rcv) (x : Seg) (hr : chkR r = 0) (hx : chkG x = 0) (hk : x.kind = 1) : Ev fun n => ∀ z : List AV × Heap → Option (List Tree), loopIter (fun p again => L39_2 n (r.known.map Span.enc) x.kind x.ses x.ser x.off x.tot x.chk x.data (x.claims.map Span.enc) r.ses r.tot r.data z p again) n ([.t (tI 0)], [.box []]) = z ([.t (.bool (decide (agree r x)))], [.box []]) := by
  obtain ⟨c1, c2, c3, c4⟩ := chkR_zero hr
  have hW := rcv_within hr
  have hlen := chkL_len c2.1
  obtain ⟨g1, g2, g3, g4, g5, g6, g7⟩ := seg_data hx hk
  have hcan := canon_pos ((chkL_iff r.known).1 c2.1).2.1
  have hsz : r.data.size ≤ 65536 := by
    have := c1.2
    unfold sizR at c3
    split at c3 <;> omega
  refine loop_overZ r.known (fun i (_ : Unit) => (([.t (tI i)], [.box []]) : List AV × Heap)) (fun _ (_ : Unit) k => if (fun k => decide (spanOk r x k)) k = true then .next () else .done false) (fun _ => true) (fun (z : List AV × Heap → Option (List Tree)) (q : Bool) => z ([AV.t (Tree.bool q)], [AObj.box []])) (fun _ _ => True) () rfl trivial ?_
    (fun i s k hk' hI => Ev.of fun n z again => ?_) (fun _ _ _ _ _ _ _ => trivial) (fun s hI => Ev.of fun n z again => ?_)
  · rw [runL_all]
    rw [Bool.eq_iff_iff, decide_eq_true_eq, agree_all]
    by_cases h : r.known.all (fun k => decide (spanOk r x k)) = true <;> simp [h]
  · have hi := lt_of_some hk'
    have hkw := hW k (List.mem_of_getElem? hk')
    have hkc := hcan k (List.mem_of_getElem? hk')
    simp only [L39_2, vv, reduceCtorEq, Nat.reduceAdd, Nat.reduceEqDiff, hk', Span.enc, (show (i : Int) < r.known.length by omega), w64_succ (show i < 4611686018427387904 by omega), w64_id (show -9223372036854775808 ≤ x.off + (x.data.size : Int) by omega) (by omega), J39_1, cndO_self]
    have ef : (if x.off > k.fro then x.off else k.fro) = ((if x.off > k.fro then x.off else k.fro).toNat : Int) := by split <;> omega
    generalize hf : (if x.off > k.fro then x.off else k.fro) = f at *
    generalize ht : (if x.off + (x.data.size : Int) < k.to then x.off + (x.data.size : Int) else k.to) = t at *
    have hf2 : f = max x.off k.fro := by rw [← hf]; simp only [Int.max_def]; split <;> split <;> omega
    have ht2 : t = min (x.off + (x.data.size : Int)) k.to := by rw [← ht]; simp only [Int.min_def]; split <;> split <;> omega
    by_cases hft : f < t
    · have hok : spanOk r x k ↔ (r.data.extract f.toNat t.toNat = x.data.extract (f - x.off).toNat (t - x.off).toNat) := by
        have key := part_eq (bl r.data) (bl x.data) f.toNat t.toNat x.off.toNat (by omega) (by rw [bl_len]; omega) (by omega) (by rw [bl_len]; omega)
        have e1 : (r.data.extract f.toNat t.toNat = x.data.extract (f - x.off).toNat (t - x.off).toNat) ↔ ((bl r.data).drop f.toNat).take (t.toNat - f.toNat) = ((bl x.data).drop (f.toNat - x.off.toNat)).take ((t.toNat - x.off.toNat) - (f.toNat - x.off.toNat)) := by
          rw [show (f - x.off).toNat = f.toNat - x.off.toNat by omega, show (t - x.off).toNat = t.toNat - x.off.toNat by omega, ← bl_extract, ← bl_extract]
          exact ⟨fun h => by rw [h], fun h => bl_inj h⟩
        rw [e1, key]
        unfold spanOk
        constructor
        · intro h q h1 h2
          have := h (q - x.off.toNat) (by omega) (by omega) (by omega)
          rw [show x.off.toNat + (q - x.off.toNat) = q by omega] at this
          exact this
        · intro h i h1 h2 h3
          have := h (x.off.toNat + i) (by omega) (by omega)
          rw [show x.off.toNat + i - x.off.toNat = i by omega] at this
          exact this
      rw [w64_id (x := t - x.off) (by omega) (by omega), w64_id (x := f - x.off) (by omega) (by omega)]
      rw [cnd_pos (show f < t from hft), cnd_pos (by omega), cnd_pos (by omega), cnd_pos (by omega), cnd_pos (by omega)]
      simp only [hok, bne, beq_bytes]
      by_cases he : r.data.extract f.toNat t.toNat = x.data.extract (f - x.off).toNat (t - x.off).toNat <;> simp [he, cnd_eq, Rd.go_next, Rd.go_done]
    · have hok : spanOk r x k := by
        intro i h1 h2 h3
        omega
      rw [cnd_neg (show ¬ f < t from hft)]
      simp [hok, cnd_eq, Rd.go_next]
  · simp only [L39_2, vv, reduceCtorEq, Nat.reduceAdd, Nat.reduceEqDiff, Int.lt_irrefl, cndO_self]
theorem s39 (r : Rcv) (x : Seg) (hr : chkR r = 0) (hx : chkG x = 0) : Runs C 39 (r.enc ++ x.enc) [.bool (suits r x)] := by
  refine Runs.of (fun n => e39 n _ _ _ _ _ _ _ _ _ _ _ _) ?_
  simp only [cndO_self]
  refine loop_overQ (fun (b : Bool) => [Tree.bool b]) [0, 1, 2, 3] (fun i (_ : Unit) => (([.t (tI i)], [.box []]) : List AV × Heap)) (fun i (_ : Unit) (_ : Nat) => if (match i with
    | 0 => decide (x.kind = 1 ∧ x.ses = r.ses)
    | 1 => decide (r.tot = -1 ∨ x.tot = r.tot)
    | 2 => decide (agree r x)
    | _ => decide (unionE r.known [sp x] = 0)) = true then .next () else .done false) (fun _ => true) (fun i _ => 0 < i → x.kind = 1) () rfl (fun h => by omega) ?_
    (fun i s k hk hI => ?_) (fun i s k s' hk hI h h0 => ?_) (fun s hI => Ev.of fun n again => ?_)
  · unfold suits
    simp only [runL]
    by_cases h1 : x.kind = 1 <;> by_cases h2 : x.ses = r.ses <;> by_cases h3 : (r.tot = -1 ∨ x.tot = r.tot) <;> by_cases h4 : agree r x <;> by_cases h5 : unionE r.known [sp x] = 0 <;> simp [h1, h2, h3, h4, h5]
  · have hi : i < 4 := lt_of_some hk
    have h40 := s40 r x hx
    rcases (show i = 0 ∨ i = 1 ∨ i = 2 ∨ i = 3 by omega) with rfl | rfl | rfl | rfl
    · refine Ev.of fun n again => ?_
      simp only [L39_8, J39_6, J39_7, vv, reduceCtorEq, Nat.reduceAdd, Nat.reduceEqDiff, cndO_self]
      by_cases h1 : x.kind = 1 <;> by_cases h2 : x.ses = r.ses <;> simp [h1, h2, cnd_eq, Rd.go_next, Rd.go_done, vv, w64, wrap64]
    · refine Ev.of fun n again => ?_
      simp only [L39_8, J39_4, J39_5, vv, reduceCtorEq, Nat.reduceAdd, Nat.reduceEqDiff, cndO_self]
      by_cases h1 : r.tot = -1 <;> by_cases h2 : x.tot = r.tot <;> simp [h1, h2, cnd_eq, Rd.go_next, Rd.go_done, vv, w64, wrap64]
    · refine (inner39 r x hr hx (hI (by omega))).mono fun n h again => ?_
      simp only [L39_8, J39_3, vv, reduceCtorEq, Nat.reduceAdd, Nat.reduceEqDiff, cndO_self, h]
      by_cases h1 : agree r x <;> simp [h1, cnd_eq, Rd.go_next, Rd.go_done, vv, w64, wrap64]
    · refine h40.mono fun n h again => ?_
      simp only [Rcv.enc, Seg.enc, List.cons_append, List.nil_append] at h
      simp only [L39_8, vv, reduceCtorEq, Nat.reduceAdd, Nat.reduceEqDiff, cndO_self, h]
      by_cases h1 : unionE r.known [sp x] = 0 <;> simp [h1, cnd_eq, Rd.go_next, Rd.go_done, vv, w64, wrap64]
  · rcases (show i = 0 ∨ 0 < i by omega) with rfl | h1
    · simp only at h
      split at h
      · rename_i h2; simp only [decide_eq_true_eq] at h2; exact h2.1
      · cases h
    · exact hI h1
  · simp only [L39_8, vv, reduceCtorEq, Nat.reduceAdd, Nat.reduceEqDiff]
    simp [cnd_eq, vv]
end Ab
