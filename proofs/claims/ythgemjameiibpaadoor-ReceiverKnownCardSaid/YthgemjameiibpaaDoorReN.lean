/- Parts of the proof: see the last text. -/
import Derived.Test.YthgemjameiibpaaDoorReH
set_option linter.unusedVariables false
set_option linter.unusedSimpArgs false
namespace Ab
open Go
def cutE (a b : Int) : Int := if (a / 16 + 1) * 16 < b then (a / 16 + 1) * 16 else b
theorem cutE_gt {a b : Int} (h : a < b) : a < cutE a b ∧ cutE a b ≤ b := by
  unfold cutE
  split <;> omega
def cut (a b : Int) : List (Int × Int) := if h : a < b then (a, cutE a b) :: cut (cutE a b) b else []
termination_by (b - a).toNat
decreasing_by have := cutE_gt h; omega
theorem cut_pos {a b : Int} (h : a < b) : cut a b = (a, cutE a b) :: cut (cutE a b) b := by rw [cut, dif_pos h]
theorem cut_neg {a b : Int} (h : ¬ a < b) : cut a b = [] := by rw [cut, dif_neg h]
def raw (d : ByteArray) (ses : Int) (p : Int × Int) : Seg := ⟨1, ses, 0, p.1, d.size, false, d.extract p.1.toNat p.2.toNat, []⟩
def raws (d : ByteArray) (ses : Int) (l : List Span) : List Seg := l.flatMap fun x => (cut x.fro x.to).map (raw d ses)
def markLast (ser : Int) (l : List Seg) : List Seg := match l.getLast? with
  | some x => l.dropLast ++ [{ x with ser := ser, chk := true }]
  | none => []
structure MS where
  v : Nat
  at_ : Int
  out : List Seg
structure NS where
  v : Nat
  out : List Seg
/-- The pieces of one interval behind others. -/
def mres (d : ByteArray) (ses b : Int) (s : MS) : NS := ⟨s.v + (cut s.at_ b).length, s.out ++ (cut s.at_ b).map (raw d ses)⟩
def mstep (d : ByteArray) (ses b : Int) (s : MS) : Rd MS NS := if s.at_ < b then .next ⟨s.v + 1, cutE s.at_ b, s.out ++ [raw d ses (s.at_, cutE s.at_ b)]⟩ else .done ⟨s.v, s.out⟩
def MInv (b : Int) (K : Int) (s : MS) : Prop := 0 ≤ s.at_ ∧ s.at_ ≤ b ∧ (s.out.length : Int) ≤ K + s.at_
theorem mstep_inv {d : ByteArray} {ses b K : Int} {s s' : MS} (h : MInv b K s) (he : mstep d ses b s = .next s') : MInv b K s' ∧ (b - s'.at_).toNat < (b - s.at_).toNat := by
  unfold mstep at he
  split at he
  · rename_i hq
    cases he
    have := cutE_gt hq
    unfold MInv at h ⊢
    simp only [List.length_append, List.length_cons, List.length_nil]
    omega
  · cases he
theorem mres_step {d : ByteArray} {ses b : Int} (s : MS) : mres d ses b s = (mstep d ses b s).fin (mres d ses b) := by
  unfold mstep
  split
  · rename_i hq
    simp only [Rd.fin, mres, cut_pos hq, List.length_cons, List.map_cons, List.append_assoc, List.cons_append, List.nil_append]
    congr 1
    omega
  · rename_i hq
    simp [Rd.fin, mres, cut_neg hq]
theorem enc_take8 (l : List Seg) : List.take l.length (List.map Seg.enc l) = List.map Seg.enc l := by rw [List.take_of_length_le (by simp)]
theorem inner32 (d : ByteArray) (ses : Int) (x : Span) (i : Nat) (v : Nat) (out : List Seg) (K : Int) (hx : 0 ≤ x.fro ∧ x.fro < x.to ∧ x.to ≤ d.size) (hd : d.size ≤ 65536) (ho : (out.length : Int) ≤ K + x.fro) (hK : K ≤ 65536000) (hi : i ≤ 1000) (y11 : List Tree) (hy : y11 = x.enc) (H0 : Heap) :
    Ev fun n => ∀ z : (List AV × Heap) → Option (List Tree), loopIter (fun (p12 : List AV × Heap) again => L32_1 n y11 d ses z (([.t (tI i)], H0) : List AV × Heap) p12 again) n (([.t (tI x.fro)], [.row false v 8 (out.map Seg.enc), .box [.sref 0 v 0 out.length], .box [], .box []]) : List AV × Heap) =
      z (([.t (tI ((i + 1 : Nat) : Int))], [.row false (mres d ses x.to ⟨v, x.fro, out⟩).v 8 ((mres d ses x.to ⟨v, x.fro, out⟩).out.map Seg.enc), .box [.sref 0 (mres d ses x.to ⟨v, x.fro, out⟩).v 0 (mres d ses x.to ⟨v, x.fro, out⟩).out.length], .box []]) : List AV × Heap) := by
  subst hy
  refine while_overZ (R := List Tree) (Z := (List AV × Heap) → Option (List Tree)) (B := fun n z p again => L32_1 n x.enc d ses z (([.t (tI i)], H0) : List AV × Heap) p again)
    (fun z (u : NS) => z (([.t (tI ((i + 1 : Nat) : Int))], [.row false u.v 8 (u.out.map Seg.enc), .box [.sref 0 u.v 0 u.out.length], .box []]) : List AV × Heap))
    (fun (s : MS) => (([.t (tI s.at_)], [.row false s.v 8 (s.out.map Seg.enc), .box [.sref 0 s.v 0 s.out.length], .box [], .box []]) : List AV × Heap)) (mstep d ses x.to) (MInv x.to K) (fun s => (x.to - s.at_).toNat) (mres d ses x.to) ⟨v, x.fro, out⟩ rfl ⟨hx.1, by simp only; omega, ho⟩ rfl (fun s hI => Ev.of fun n z again => ?_) (fun s s' hI he => mstep_inv hI he) (fun s _ => mres_step s)
  unfold MInv at hI
  have e0 : w64 (w64 (w64 (Int.tdiv s.at_ 16) + 1) * 16) = (s.at_ / 16 + 1) * 16 := by
    rw [tdiv_nn hI.1, w64_id (x := s.at_ / 16) (by omega) (by omega), w64_id (x := s.at_ / 16 + 1) (by omega) (by omega), w64_id (by omega) (by omega)]
  unfold mstep
  by_cases hq : s.at_ < x.to
  · have hc := cutE_gt hq
    have e1 : (if (s.at_ / 16 + 1) * 16 < x.to then (s.at_ / 16 + 1) * 16 else x.to) = cutE s.at_ x.to := rfl
    rw [if_pos hq]
    simp only [L32_1, vv, reduceCtorEq, Nat.reduceAdd, Nat.reduceEqDiff, Span.enc, hq, e0, e1, enc_take8, (show 0 ≤ cutE s.at_ x.to by omega), (show cutE s.at_ x.to ≤ (d.size : Int) by omega), hI.1, (show s.at_ ≤ ((cutE s.at_ x.to).toNat : Int) by omega), Nat.le_refl, (show s.out.length + 1 ≤ 1073741824 by omega), Rd.go_next, List.map_append, List.map_cons, List.map_nil, raw, Seg.enc, List.length_append]
  · rw [if_neg hq]
    simp only [L32_1, vv, reduceCtorEq, Nat.reduceAdd, Nat.reduceEqDiff, Span.enc, hq, Rd.go_done, w64_succ (show i < 4611686018427387904 by omega)]
end Ab

set_option linter.unusedVariables false
set_option linter.unusedSimpArgs false
namespace Ab
open Go
def unionL (a b : List Span) : List Span := if chkL a = 0 ∧ chkL b = 0 then (if 1000 < (uni a b).length then [] else uni a b) else []
def unionE (a b : List Span) : Int := if chkL a = 0 ∧ chkL b = 0 then (if 1000 < (uni a b).length then 4 else 0) else 1
theorem unionP_eq (a b : List Span) : unionP a b = [.sl 2 ((unionL a b).map Span.enc), tI (unionE a b)] := by
  unfold unionP unionL unionE fin
  split
  · split <;> rfl
  · rfl
def wholeS (d : ByteArray) : List Span := [⟨0, d.size⟩]
theorem uni_len {a b : List Span} (ha : chkL a = 0) (hb : chkL b = 0) : (uni a b).length ≤ a.length + b.length := by
  rw [← uni_eq ((chkL_iff _).1 ha).2.1 ((chkL_iff _).1 hb).2.1]
  clear ha hb
  induction b generalizing a with
  | nil => simp [unionR]
  | cons x b ih =>
    have h1 := ih (a := insR x a)
    have h2 := insR_len x a
    show (unionR (insR x a) b).length ≤ _
    simp only [List.length_cons]
    omega
theorem canon_bounds {l : List Span} {b : Int} (h : Canon b l) (hl : l ≠ []) : ∀ x ∈ l, headFro l ≤ x.fro ∧ x.to ≤ lastTo l := by
  induction l generalizing b with
  | nil => exact (hl rfl).elim
  | cons y l ih =>
    intro x hx
    cases l with
    | nil =>
      simp only [List.mem_singleton] at hx
      subst hx
      exact ⟨Int.le_refl _, Int.le_refl _⟩
    | cons z l =>
      have e : lastTo (y :: z :: l) = lastTo (z :: l) := by unfold lastTo; rw [List.getLast?_cons_cons]
      rw [e]
      have k := ih h.2.2 (by simp)
      have hz : headFro (z :: l) = z.fro := rfl
      have hy : headFro (y :: z :: l) = y.fro := rfl
      have h1 := h.2.1
      have h2 := h.2.2.1
      rw [hy]
      rcases List.mem_cons.1 hx with rfl | hx
      · have := k z (by simp)
        have := h.2.2.2.1
        omega
      · have := k x hx
        omega
theorem head_mem {l : List Span} (hl : l ≠ []) : ∃ x ∈ l, headFro l = x.fro := ⟨l.head hl, List.head_mem hl, (head_at hl).2⟩
theorem last_mem {l : List Span} (hl : l ≠ []) : ∃ x ∈ l, lastTo l = x.to := ⟨l.getLast hl, List.getLast_mem hl, (last_at hl).2⟩
/-- Within 0 to n. -/
def Within (l : List Span) (n : Int) : Prop := ∀ x ∈ l, 0 ≤ x.fro ∧ x.to ≤ n
instance (l : List Span) (n : Int) : Decidable (Within l n) := by unfold Within; exact inferInstance
theorem inside_iff {l : List Span} {n : Int} (h : chkL l = 0) : (l = [] ∨ 0 ≤ headFro l ∧ lastTo l ≤ n) ↔ Within l n := by
  have hc := ((chkL_iff l).1 h).2.1
  by_cases hl : l = []
  · subst hl
    simp [Within]
  · constructor
    · rintro (h | h)
      · exact (hl h).elim
      · intro x hx
        have := canon_bounds hc hl x hx
        omega
    · intro hw
      obtain ⟨x, hx, e1⟩ := head_mem hl
      obtain ⟨y, hy, e2⟩ := last_mem hl
      have := hw x hx
      have := hw y hy
      omega
theorem within_mem {l : List Span} {n t : Int} (h : Within l n) (m : memS t l) : 0 ≤ t ∧ t < n := by
  induction l with
  | nil => exact m.elim
  | cons x l ih =>
    rcases m with m | m
    · have := h x (by simp); omega
    · exact ih (fun y hy => h y (by simp [hy])) m
theorem mem_within {l : List Span} {b n : Int} (h : Canon b l) (hm : ∀ t, memS t l → 0 ≤ t ∧ t < n) : Within l n := by
  induction l generalizing b with
  | nil => intro x hx; cases hx
  | cons x l ih =>
    intro y hy
    rcases List.mem_cons.1 hy with rfl | hy
    · have := h.2.1
      have := hm y.fro (.inl ⟨by omega, by omega⟩)
      have := hm (y.to - 1) (.inl ⟨by omega, by omega⟩)
      omega
    · exact ih h.2.2 (fun t m => hm t (.inr m)) y hy
theorem chk_whole {d : ByteArray} (h : 1 ≤ d.size ∧ d.size ≤ 65536) : chkL (wholeS d) = 0 := by
  rw [chkL_iff]
  refine ⟨by simp [wholeS], ⟨by simp only; omega, by simp only; omega, trivial⟩, fun x hx => ?_⟩
  simp only [wholeS, List.mem_singleton] at hx
  subst hx
  simp only
  omega
theorem canon_len {l : List Span} : ∀ {b n : Int}, Canon b l → b < n → (∀ x ∈ l, x.to ≤ n) → (l.length : Int) ≤ n - b := by
  induction l with
  | nil => intro b n _ h _; simp; omega
  | cons x l ih =>
    intro b n h hb ht
    have h1 := h.1
    have h2 := h.2.1
    by_cases he : x.to < n
    · have := ih h.2.2 he (fun y hy => ht y (by simp [hy]))
      simp only [List.length_cons]
      omega
    · cases l with
      | nil => simp; omega
      | cons y l =>
        have := h.2.2.1
        have := h.2.2.2.1
        have := ht y (by simp)
        omega
end Ab

set_option linter.unusedVariables false
set_option linter.unusedSimpArgs false
namespace Ab
open Go
theorem cut_len : ∀ (k : Nat) (a b : Int), (b - a).toNat ≤ k → ((cut a b).length : Int) ≤ if a < b then b - a else 0
  | k, a, b, h => by
    by_cases hq : a < b
    · rw [cut_pos hq, if_pos hq]
      have hc := cutE_gt hq
      cases k with
      | zero => omega
      | succ k =>
        have := cut_len k (cutE a b) b (by omega)
        simp only [List.length_cons]
        split at this <;> omega
    · rw [cut_neg hq, if_neg hq]
      simp
theorem mres_len (d : ByteArray) (ses b : Int) (s : MS) (h : s.at_ ≤ b) : ((mres d ses b s).out.length : Int) ≤ s.out.length + (b - s.at_) := by
  have := cut_len _ s.at_ b (Nat.le_refl _)
  simp only [mres, List.length_append, List.length_map]
  split at this <;> omega
def SpanOk (l : List Span) (n : Int) : Prop := ∀ x ∈ l, 0 ≤ x.fro ∧ x.fro < x.to ∧ x.to ≤ n
def oStep (d : ByteArray) (ses : Int) (_ : Nat) (s : NS) (x : Span) : Rd NS (List Seg) := .next (mres d ses x.to ⟨s.v, x.fro, s.out⟩)
theorem o_run (d : ByteArray) (ses ser : Int) : ∀ (l : List Span) (i : Nat) (s : NS), runL (oStep d ses) (fun s => markLast ser s.out) i l s = markLast ser (s.out ++ raws d ses l)
  | [], i, s => by simp [runL, raws]
  | x :: l, i, s => by
    simp only [runL, oStep]
    rw [o_run d ses ser l]
    simp [mres, raws]
def OInv (i : Nat) (s : NS) : Prop := (s.out.length : Int) ≤ 65536 * i ∧ (i ≠ 0 → s.out ≠ [])
theorem oinv_step {d : ByteArray} {ses : Int} {x : Span} {i : Nat} {s s' : NS} (hd : d.size ≤ 65536) (hx : 0 ≤ x.fro ∧ x.fro < x.to ∧ x.to ≤ d.size) (h : OInv i s) (he : oStep d ses i s x = .next s') : OInv (i + 1) s' := by
  cases he
  have := mres_len d ses x.to ⟨s.v, x.fro, s.out⟩ (by simp only; omega)
  simp only at this
  refine ⟨by have := h.1; omega, fun _ => ?_⟩
  simp [mres, cut_pos hx.2.1]
theorem last_enc (pre : List Seg) (x : Seg) : List.map Seg.enc (pre ++ [x]) = List.map Seg.enc pre ++ [x.enc] := by simp
theorem getlast_at (l : List (List Tree)) (y : List Tree) (k : Nat) (h : k = l.length) : (l ++ [y])[k]? = some y := by
  subst h
  rw [List.getElem?_append_right (Nat.le_refl _)]
  simp
theorem take_all (l : List (List Tree)) (y : List Tree) (k : Nat) (h : k = l.length + 1) : List.take k (l ++ [y]) = l ++ [y] := by
  subst h
  rw [List.take_of_length_le (by simp)]
theorem mark_concat (ser : Int) (pre : List Seg) (x : Seg) : markLast ser (pre ++ [x]) = pre ++ [{ x with ser := ser, chk := true }] := by
  unfold markLast
  simp
theorem outer32 (d : ByteArray) (ses ser : Int) (l : List Span) (hl : l ≠ []) (hl2 : l.length ≤ 1000) (hd : d.size ≤ 65536) (hs : SpanOk l d.size) :
    Ev fun n => loopIter (fun (p9 : List AV × Heap) again => L32_2 n (l.map Span.enc) d ses ser p9 again) n (([.t (tI 0)], [.row false 0 8 [], .box [.sref 0 0 0 0], .box []]) : List AV × Heap) = some [.sl 8 ((markLast ser (raws d ses l)).map Seg.enc), tI 0] := by
  refine loop_overQ (R := List Tree) (fun (q : List Seg) => [Tree.sl 8 (q.map Seg.enc), tI 0]) l (fun i (s : NS) => (([.t (tI i)], [.row false s.v 8 (s.out.map Seg.enc), .box [.sref 0 s.v 0 s.out.length], .box []]) : List AV × Heap)) (oStep d ses) (fun s => markLast ser s.out) OInv ⟨0, []⟩ rfl ⟨by simp, fun h => (h rfl).elim⟩ (by rw [o_run]; rfl)
    (fun i s x hx hI => ?_) (fun i s x s' hx hI he => oinv_step hd (hs x (List.mem_of_getElem? hx)) hI he) (fun s hI => Ev.of fun n again => ?_)
  · have hi := lt_of_some hx
    have hb := hs x (List.mem_of_getElem? hx)
    have key := inner32 d ses x i s.v s.out ((s.out.length : Int) - x.fro) hb hd (by omega) (by have := hI.1; omega) (by omega) x.enc rfl [.row false s.v 8 (s.out.map Seg.enc), .box [.sref 0 s.v 0 s.out.length], .box []]
    refine key.mono fun n h again => ?_
    have h' := h again
    simp only [Span.enc] at h'
    simp only [L32_2, vv, reduceCtorEq, Nat.reduceAdd, Nat.reduceEqDiff, (show (i : Int) < (l.length : Int) by omega), hx, Span.enc, h', oStep, Rd.go_next]
  · have hne : s.out ≠ [] := hI.2 (by intro h; exact hl (List.eq_nil_of_length_eq_zero h))
    obtain ⟨pre, x, hpx⟩ : ∃ pre x, s.out = pre ++ [x] := ⟨s.out.dropLast, s.out.getLast hne, (List.dropLast_concat_getLast hne).symm⟩
    have hlen := hI.1
    rw [hpx] at hlen
    simp only [List.length_append, List.length_cons, List.length_nil, Nat.zero_add] at hlen
    have e0 : s.out.length = pre.length + 1 := by rw [hpx]; simp
    have e1 : w64 (((pre.length + 1 : Nat) : Int) - 1) = (pre.length : Int) := by rw [w64_id (by omega) (by omega)]; omega
    rw [hpx, mark_concat]
    simp only [L32_2, vv, reduceCtorEq, Nat.reduceAdd, Nat.reduceEqDiff, Int.lt_irrefl, last_enc, List.length_append, e1, (show (pre.length : Int) < ((pre.length + 1 : Nat) : Int) by omega), Nat.le_refl, getlast_at (List.map Seg.enc pre) _ pre.length (by simp), set_last (List.map Seg.enc pre) _ _ pre.length (by simp), take_all (List.map Seg.enc pre) _ (pre.length + 1) (by simp), Seg.enc, List.take, List.drop, List.cons_append, List.nil_append, Nat.reduceLeDiff]
/-- What Batch returns. -/
def batE (ses ser : Int) (d : ByteArray) (l : List Span) : Int := if ¬ ((0 ≤ ses ∧ ses ≤ 1099511627776) ∧ (1 ≤ ser ∧ ser ≤ 1099511627776)) then 2 else if d.size = 0 then 20 else if 65536 < d.size then 4 else if inside l d.size = false then 1 else if l = [] then 20 else 0
def batL (ses ser : Int) (d : ByteArray) (l : List Span) : List Seg := if batE ses ser d l = 0 then markLast ser (raws d ses l) else []
theorem inside_ok {l : List Span} {n : Int} (h : inside l n = true) : SpanOk l n ∧ l.length ≤ 1000 := by
  unfold inside at h
  have h := of_decide_eq_true h
  have hw := (inside_iff h.1).1 h.2
  have hc := ((chkL_iff l).1 h.1).2.1
  exact ⟨fun x hx => by have := hw x hx; have := canon_to hc x hx; omega, chkL_len h.1⟩
theorem s32 (ses ser : Int) (d : ByteArray) (l : List Span) : Runs C 32 [tI ses, tI ser, .str d, .sl 2 (l.map Span.enc)] [.sl 8 ((batL ses ser d l).map Seg.enc), tI (batE ses ser d l)] := by
  refine Runs.of (fun n => e32 n _ _ _ _) ?_
  have hJ : Ev fun n => J32_3 n d (l.map Span.enc) ses ser (([.t (.bool (decide (¬ ((0 ≤ ses ∧ ses ≤ 1099511627776) ∧ (1 ≤ ser ∧ ser ≤ 1099511627776)))))], []) : List AV × Heap) = some [.sl 8 ((batL ses ser d l).map Seg.enc), tI (batE ses ser d l)] := by
    unfold batL batE
    by_cases h1 : (0 ≤ ses ∧ ses ≤ 1099511627776) ∧ (1 ≤ ser ∧ ser ≤ 1099511627776)
    · by_cases h2 : d.size = 0
      · exact Ev.of fun n => by simp [J32_3, vv, reduceCtorEq, Nat.reduceAdd, Nat.reduceEqDiff, h1, h2, cnd_eq, size_zero]
      · by_cases h3 : 65536 < d.size
        · exact Ev.of fun n => by simp [J32_3, vv, reduceCtorEq, Nat.reduceAdd, Nat.reduceEqDiff, h1, h2, h3, cnd_eq, size_zero, (show (65536 : Int) < (d.size : Int) by omega)]
        · by_cases h4 : inside l d.size = false
          · refine (s58 l d.size).mono fun n g => ?_
            simp [J32_3, vv, reduceCtorEq, Nat.reduceAdd, Nat.reduceEqDiff, h1, h2, h3, g, h4, cnd_eq, size_zero, (show ¬ (65536 : Int) < (d.size : Int) by omega)]
          · have h4' : inside l d.size = true := by simpa using h4
            by_cases h5 : l = []
            · refine (s58 l d.size).mono fun n g => ?_
              subst h5
              rw [h4'] at g
              simp only [List.map_nil] at g
              simp [J32_3, vv, reduceCtorEq, Nat.reduceAdd, Nat.reduceEqDiff, h1, h2, h3, g, h4', cnd_eq, size_zero, (show ¬ (65536 : Int) < (d.size : Int) by omega)]
            · obtain ⟨g1, g2⟩ := inside_ok h4'
              refine ((s58 l d.size).and (outer32 d ses ser l h5 g2 (by omega) g1)).mono fun n g => ?_
              have hp := List.length_pos_iff.2 h5
              simp only [J32_3, vv, reduceCtorEq, Nat.reduceAdd, Nat.reduceEqDiff, h1, not_true_eq_false, size_zero, h2, h3, g.1, g.2, h4', h5, (show ¬ (65536 : Int) < (d.size : Int) by omega), (show ¬ ((l.length : Int) = 0) by omega), beq_iff_eq]
    · exact Ev.of fun n => by simp only [J32_3, vv, reduceCtorEq, Nat.reduceAdd, Nat.reduceEqDiff, h1, not_false_eq_true]; simp
  refine ((s57 ses 0 1099511627776).and ((s57 ser 1 1099511627776).and hJ)).mono fun n h => ?_
  obtain ⟨h1, h2, h3⟩ := h
  simp only [h1, h2, vv, reduceCtorEq, Nat.reduceAdd, Nat.reduceEqDiff, wi]
  by_cases q1 : 0 ≤ ses ∧ ses ≤ 1099511627776
  · have : (!decide (1 ≤ ser ∧ ser ≤ 1099511627776)) = decide (¬ ((0 ≤ ses ∧ ses ≤ 1099511627776) ∧ (1 ≤ ser ∧ ser ≤ 1099511627776))) := by
      rw [Bool.eq_iff_iff, decide_eq_true_eq, Bool.not_eq_true', decide_eq_false_iff_not]
      simp only [q1, true_and, and_self]
    simp only [q1, vv, reduceCtorEq, Nat.reduceAdd, Nat.reduceEqDiff]
    rw [this]
    exact h3
  · have : (true : Bool) = decide (¬ ((0 ≤ ses ∧ ses ≤ 1099511627776) ∧ (1 ≤ ser ∧ ser ≤ 1099511627776))) := by symm; rw [decide_eq_true_eq]; exact fun h => q1 h.1
    simp only [q1, vv, reduceCtorEq, Nat.reduceAdd, Nat.reduceEqDiff]
    rw [this]
    exact h3
end Ab
