/- Parts of the proof: see the last text. -/
import Derived.Test.YtdgkjmcggiihgaaSeL
set_option linter.unusedVariables false
set_option linter.unusedSimpArgs false
namespace Ab
open Go
def cutE (a b : Int) : Int := if (a / 16 + 1) * 16 < b then (a / 16 + 1) * 16 else b
theorem cutE_gt {a b : Int} (h : a < b) : a < cutE a b ∧ cutE a b ≤ b := by
  unfold cutE
  split <;> omega
def cut (a b : Int) : List (Int × Int) := if h : a < b then (a, cutE a b) :: cut (cutE a b) b else []
termination_by (b - a).toNat
decreasing_by have := cutE_gt h; omega
theorem cut_pos {a b : Int} (h : a < b) : cut a b = (a, cutE a b) :: cut (cutE a b) b := by rw [cut, dif_pos h]
theorem cut_neg {a b : Int} (h : ¬ a < b) : cut a b = [] := by rw [cut, dif_neg h]
def raw (d : ByteArray) (ses : Int) (p : Int × Int) : Seg := ⟨1, ses, 0, p.1, d.size, false, d.extract p.1.toNat p.2.toNat, []⟩
def raws (d : ByteArray) (ses : Int) (l : List Span) : List Seg := l.flatMap fun x => (cut x.fro x.to).map (raw d ses)
def markLast (ser : Int) (l : List Seg) : List Seg := match l.getLast? with
  | some x => l.dropLast ++ [{ x with ser := ser, chk := true }]
  | none => []
structure MS where
  v : Nat
  at_ : Int
  out : List Seg
structure NS where
  v : Nat
  out : List Seg
/-- The pieces of one interval behind others. -/
def mres (d : ByteArray) (ses b : Int) (s : MS) : NS := ⟨s.v + (cut s.at_ b).length, s.out ++ (cut s.at_ b).map (raw d ses)⟩
def mstep (d : ByteArray) (ses b : Int) (s : MS) : Rd MS NS := if s.at_ < b then .next ⟨s.v + 1, cutE s.at_ b, s.out ++ [raw d ses (s.at_, cutE s.at_ b)]⟩ else .done ⟨s.v, s.out⟩
def MInv (b : Int) (K : Int) (s : MS) : Prop := 0 ≤ s.at_ ∧ s.at_ ≤ b ∧ (s.out.length : Int) ≤ K + s.at_
theorem mstep_inv {d : ByteArray} {ses b K : Int} {s s' : MS} (h : MInv b K s) (he : mstep d ses b s = .next s') : MInv b K s' ∧ (b - s'.at_).toNat < (b - s.at_).toNat := by
  unfold mstep at he
  split at he
  · rename_i hq
    cases he
    have := cutE_gt hq
    unfold MInv at h ⊢
    simp only [List.length_append, List.length_cons, List.length_nil]
    omega
  · cases he
theorem mres_step {d : ByteArray} {ses b : Int} (s : MS) : mres d ses b s = (mstep d ses b s).fin (mres d ses b) := by
  unfold mstep
  split
  · rename_i hq
    simp only [Rd.fin, mres, cut_pos hq, List.length_cons, List.map_cons, List.append_assoc, List.cons_append, List.nil_append]
    congr 1
    omega
  · rename_i hq
    simp [Rd.fin, mres, cut_neg hq]
theorem enc_take8 (l : List Seg) : List.take l.length (List.map Seg.enc l) = List.map Seg.enc l := by rw [List.take_of_length_le (by simp)]
theorem inner21 (d : ByteArray) (ses : Int) (x : Span) (i : Nat) (v : Nat) (out : List Seg) (K : Int) (hx : 0 ≤ x.fro ∧ x.fro < x.to ∧ x.to ≤ d.size) (hd : d.size ≤ 65536) (ho : (out.length : Int) ≤ K + x.fro) (hK : K ≤ 65536000) (hi : i ≤ 1000) (y11 : List Tree) (hy : y11 = x.enc) (H0 : Heap) :
    Ev fun n => ∀ z : (List AV × Heap) → Option (List Tree), loopIter (fun (p12 : List AV × Heap) again => L21_1 n y11 d ses z (([.t (tI i)], H0) : List AV × Heap) p12 again) n (([.t (tI x.fro)], [.row false v 8 (out.map Seg.enc), .box [.sref 0 v 0 out.length], .box [], .box []]) : List AV × Heap) =
      z (([.t (tI ((i + 1 : Nat) : Int))], [.row false (mres d ses x.to ⟨v, x.fro, out⟩).v 8 ((mres d ses x.to ⟨v, x.fro, out⟩).out.map Seg.enc), .box [.sref 0 (mres d ses x.to ⟨v, x.fro, out⟩).v 0 (mres d ses x.to ⟨v, x.fro, out⟩).out.length], .box []]) : List AV × Heap) := by
  subst hy
  refine while_overZ (R := List Tree) (Z := (List AV × Heap) → Option (List Tree)) (B := fun n z p again => L21_1 n x.enc d ses z (([.t (tI i)], H0) : List AV × Heap) p again)
    (fun z (u : NS) => z (([.t (tI ((i + 1 : Nat) : Int))], [.row false u.v 8 (u.out.map Seg.enc), .box [.sref 0 u.v 0 u.out.length], .box []]) : List AV × Heap))
    (fun (s : MS) => (([.t (tI s.at_)], [.row false s.v 8 (s.out.map Seg.enc), .box [.sref 0 s.v 0 s.out.length], .box [], .box []]) : List AV × Heap)) (mstep d ses x.to) (MInv x.to K) (fun s => (x.to - s.at_).toNat) (mres d ses x.to) ⟨v, x.fro, out⟩ rfl ⟨hx.1, by simp only; omega, ho⟩ rfl (fun s hI => Ev.of fun n z again => ?_) (fun s s' hI he => mstep_inv hI he) (fun s _ => mres_step s)
  unfold MInv at hI
  have e0 : w64 (w64 (w64 (Int.tdiv s.at_ 16) + 1) * 16) = (s.at_ / 16 + 1) * 16 := by
    rw [tdiv_nn hI.1, w64_id (x := s.at_ / 16) (by omega) (by omega), w64_id (x := s.at_ / 16 + 1) (by omega) (by omega), w64_id (by omega) (by omega)]
  unfold mstep
  by_cases hq : s.at_ < x.to
  · have hc := cutE_gt hq
    have e1 : (if (s.at_ / 16 + 1) * 16 < x.to then (s.at_ / 16 + 1) * 16 else x.to) = cutE s.at_ x.to := rfl
    rw [if_pos hq]
    simp only [L21_1, vv, reduceCtorEq, Nat.reduceAdd, Nat.reduceEqDiff, Span.enc, hq, e0, e1, enc_take8, (show 0 ≤ cutE s.at_ x.to by omega), (show cutE s.at_ x.to ≤ (d.size : Int) by omega), hI.1, (show s.at_ ≤ ((cutE s.at_ x.to).toNat : Int) by omega), Nat.le_refl, (show s.out.length + 1 ≤ 1073741824 by omega), Rd.go_next, List.map_append, List.map_cons, List.map_nil, raw, Seg.enc, List.length_append]
  · rw [if_neg hq]
    simp only [L21_1, vv, reduceCtorEq, Nat.reduceAdd, Nat.reduceEqDiff, Span.enc, hq, Rd.go_done, w64_succ (show i < 4611686018427387904 by omega)]
theorem inner39 (d : ByteArray) (ses : Int) (l : List Span) (x : Span) (i : Nat) (hxi : l[i]? = some x) (v : Nat) (out : List Seg) (K : Int) (hx : 0 ≤ x.fro ∧ x.fro < x.to ∧ x.to ≤ d.size) (hd : d.size ≤ 65536) (ho : (out.length : Int) ≤ K + x.fro) (hK : K ≤ 65536000) (hi : i ≤ 1000) (H0 : Heap) (r0 : AV) :
    Ev fun n => ∀ z : (List AV × Heap) → Option (List Tree), loopIter (fun (p12 : List AV × Heap) again => L39_1 n (([r0, .t (tI i)], H0) : List AV × Heap) (l.map Span.enc) d ses z p12 again) n (([.sref 0 v 0 out.length, .t (tI x.fro)], [.row false v 8 (out.map Seg.enc)]) : List AV × Heap) =
      z (([.sref 0 (mres d ses x.to ⟨v, x.fro, out⟩).v 0 (mres d ses x.to ⟨v, x.fro, out⟩).out.length, .t (tI ((i + 1 : Nat) : Int))], [.row false (mres d ses x.to ⟨v, x.fro, out⟩).v 8 ((mres d ses x.to ⟨v, x.fro, out⟩).out.map Seg.enc)]) : List AV × Heap) := by
  refine while_overZ (R := List Tree) (Z := (List AV × Heap) → Option (List Tree)) (B := fun n z p again => L39_1 n (([r0, .t (tI i)], H0) : List AV × Heap) (l.map Span.enc) d ses z p again)
    (fun z (u : NS) => z (([.sref 0 u.v 0 u.out.length, .t (tI ((i + 1 : Nat) : Int))], [.row false u.v 8 (u.out.map Seg.enc)]) : List AV × Heap))
    (fun (s : MS) => (([.sref 0 s.v 0 s.out.length, .t (tI s.at_)], [.row false s.v 8 (s.out.map Seg.enc)]) : List AV × Heap)) (mstep d ses x.to) (MInv x.to K) (fun s => (x.to - s.at_).toNat) (mres d ses x.to) ⟨v, x.fro, out⟩ rfl ⟨hx.1, by simp only; omega, ho⟩ rfl (fun s hI => Ev.of fun n z again => ?_) (fun s s' hI he => mstep_inv hI he) (fun s _ => mres_step s)
  unfold MInv at hI
  have e0 : w64 (w64 (s.at_ - Int.tmod s.at_ 16) + 16) = (s.at_ / 16 + 1) * 16 := by
    rw [Int.tmod_eq_emod_of_nonneg hI.1, w64_id (x := s.at_ - s.at_ % 16) (by omega) (by omega), w64_id (by omega) (by omega)]
    omega
  unfold mstep
  by_cases hq : s.at_ < x.to
  · have hc := cutE_gt hq
    have e1 : (if (s.at_ / 16 + 1) * 16 < x.to then (s.at_ / 16 + 1) * 16 else x.to) = cutE s.at_ x.to := rfl
    rw [if_pos hq]
    simp only [L39_1, vv, reduceCtorEq, Nat.reduceAdd, Nat.reduceEqDiff, hxi, Span.enc, hq, e0, e1, enc_take8, (show 0 ≤ cutE s.at_ x.to by omega), (show cutE s.at_ x.to ≤ (d.size : Int) by omega), hI.1, (show s.at_ ≤ ((cutE s.at_ x.to).toNat : Int) by omega), Nat.le_refl, (show s.out.length + 1 ≤ 1073741824 by omega), Rd.go_next, List.map_append, List.map_cons, List.map_nil, raw, Seg.enc, List.length_append]
  · rw [if_neg hq]
    simp only [L39_1, vv, reduceCtorEq, Nat.reduceAdd, Nat.reduceEqDiff, hxi, Span.enc, hq, Rd.go_done, w64_succ (show i < 4611686018427387904 by omega)]
end Ab

set_option linter.unusedVariables false
set_option linter.unusedSimpArgs false
namespace Ab
open Go
theorem cut_len : ∀ (k : Nat) (a b : Int), (b - a).toNat ≤ k → ((cut a b).length : Int) ≤ if a < b then b - a else 0
  | k, a, b, h => by
    by_cases hq : a < b
    · rw [cut_pos hq, if_pos hq]
      have hc := cutE_gt hq
      cases k with
      | zero => omega
      | succ k =>
        have := cut_len k (cutE a b) b (by omega)
        simp only [List.length_cons]
        split at this <;> omega
    · rw [cut_neg hq, if_neg hq]
      simp
theorem mres_len (d : ByteArray) (ses b : Int) (s : MS) (h : s.at_ ≤ b) : ((mres d ses b s).out.length : Int) ≤ s.out.length + (b - s.at_) := by
  have := cut_len _ s.at_ b (Nat.le_refl _)
  simp only [mres, List.length_append, List.length_map]
  split at this <;> omega
def SpanOk (l : List Span) (n : Int) : Prop := ∀ x ∈ l, 0 ≤ x.fro ∧ x.fro < x.to ∧ x.to ≤ n
def oStep (d : ByteArray) (ses : Int) (_ : Nat) (s : NS) (x : Span) : Rd NS (List Seg) := .next (mres d ses x.to ⟨s.v, x.fro, s.out⟩)
theorem o_run (d : ByteArray) (ses ser : Int) : ∀ (l : List Span) (i : Nat) (s : NS), runL (oStep d ses) (fun s => markLast ser s.out) i l s = markLast ser (s.out ++ raws d ses l)
  | [], i, s => by simp [runL, raws]
  | x :: l, i, s => by
    simp only [runL, oStep]
    rw [o_run d ses ser l]
    simp [mres, raws]
def OInv (i : Nat) (s : NS) : Prop := (s.out.length : Int) ≤ 65536 * i ∧ (i ≠ 0 → s.out ≠ [])
theorem oinv_step {d : ByteArray} {ses : Int} {x : Span} {i : Nat} {s s' : NS} (hd : d.size ≤ 65536) (hx : 0 ≤ x.fro ∧ x.fro < x.to ∧ x.to ≤ d.size) (h : OInv i s) (he : oStep d ses i s x = .next s') : OInv (i + 1) s' := by
  cases he
  have := mres_len d ses x.to ⟨s.v, x.fro, s.out⟩ (by simp only; omega)
  simp only at this
  refine ⟨by have := h.1; omega, fun _ => ?_⟩
  simp [mres, cut_pos hx.2.1]
theorem last_enc (pre : List Seg) (x : Seg) : List.map Seg.enc (pre ++ [x]) = List.map Seg.enc pre ++ [x.enc] := by simp
theorem getlast_at (l : List (List Tree)) (y : List Tree) (k : Nat) (h : k = l.length) : (l ++ [y])[k]? = some y := by
  subst h
  rw [List.getElem?_append_right (Nat.le_refl _)]
  simp
theorem take_all (l : List (List Tree)) (y : List Tree) (k : Nat) (h : k = l.length + 1) : List.take k (l ++ [y]) = l ++ [y] := by
  subst h
  rw [List.take_of_length_le (by simp)]
theorem mark_concat (ser : Int) (pre : List Seg) (x : Seg) : markLast ser (pre ++ [x]) = pre ++ [{ x with ser := ser, chk := true }] := by
  unfold markLast
  simp
theorem outer21 (d : ByteArray) (ses ser : Int) (l : List Span) (hl : l ≠ []) (hl2 : l.length ≤ 1000) (hd : d.size ≤ 65536) (hs : SpanOk l d.size) :
    Ev fun n => loopIter (fun (p9 : List AV × Heap) again => L21_2 n (l.map Span.enc) d ses ser p9 again) n (([.t (tI 0)], [.row false 0 8 [], .box [.sref 0 0 0 0], .box []]) : List AV × Heap) = some [.sl 8 ((markLast ser (raws d ses l)).map Seg.enc), tI 0] := by
  refine loop_overQ (R := List Tree) (fun (q : List Seg) => [Tree.sl 8 (q.map Seg.enc), tI 0]) l (fun i (s : NS) => (([.t (tI i)], [.row false s.v 8 (s.out.map Seg.enc), .box [.sref 0 s.v 0 s.out.length], .box []]) : List AV × Heap)) (oStep d ses) (fun s => markLast ser s.out) OInv ⟨0, []⟩ rfl ⟨by simp, fun h => (h rfl).elim⟩ (by rw [o_run]; rfl)
    (fun i s x hx hI => ?_) (fun i s x s' hx hI he => oinv_step hd (hs x (List.mem_of_getElem? hx)) hI he) (fun s hI => Ev.of fun n again => ?_)
  · have hi := lt_of_some hx
    have hb := hs x (List.mem_of_getElem? hx)
    have key := inner21 d ses x i s.v s.out ((s.out.length : Int) - x.fro) hb hd (by omega) (by have := hI.1; omega) (by omega) x.enc rfl [.row false s.v 8 (s.out.map Seg.enc), .box [.sref 0 s.v 0 s.out.length], .box []]
    refine key.mono fun n h again => ?_
    have h' := h again
    simp only [Span.enc] at h'
    simp only [L21_2, vv, reduceCtorEq, Nat.reduceAdd, Nat.reduceEqDiff, (show (i : Int) < (l.length : Int) by omega), hx, Span.enc, h', oStep, Rd.go_next]
  · have hne : s.out ≠ [] := hI.2 (by intro h; exact hl (List.eq_nil_of_length_eq_zero h))
    obtain ⟨pre, x, hpx⟩ : ∃ pre x, s.out = pre ++ [x] := ⟨s.out.dropLast, s.out.getLast hne, (List.dropLast_concat_getLast hne).symm⟩
    have hlen := hI.1
    rw [hpx] at hlen
    simp only [List.length_append, List.length_cons, List.length_nil, Nat.zero_add] at hlen
    have e0 : s.out.length = pre.length + 1 := by rw [hpx]; simp
    have e1 : w64 (((pre.length + 1 : Nat) : Int) - 1) = (pre.length : Int) := by rw [w64_id (by omega) (by omega)]; omega
    rw [hpx, mark_concat]
    simp only [L21_2, vv, reduceCtorEq, Nat.reduceAdd, Nat.reduceEqDiff, Int.lt_irrefl, last_enc, List.length_append, e1, (show (pre.length : Int) < ((pre.length + 1 : Nat) : Int) by omega), Nat.le_refl, getlast_at (List.map Seg.enc pre) _ pre.length (by simp), set_last (List.map Seg.enc pre) _ _ pre.length (by simp), take_all (List.map Seg.enc pre) _ (pre.length + 1) (by simp), Seg.enc, List.take, List.drop, List.cons_append, List.nil_append, Nat.reduceLeDiff]
theorem outer39 (d : ByteArray) (ses ser : Int) (l : List Span) (hl : l ≠ []) (hl2 : l.length ≤ 1000) (hd : d.size ≤ 65536) (hs : SpanOk l d.size) :
    Ev fun n => loopIter (fun (p9 : List AV × Heap) again => L39_2 n (l.map Span.enc) d ses ser p9 again) n (([.sref 0 0 0 0, .t (tI 0)], [.row false 0 8 []]) : List AV × Heap) = some [.sl 8 ((markLast ser (raws d ses l)).map Seg.enc), tI 0] := by
  refine loop_overQ (R := List Tree) (fun (q : List Seg) => [Tree.sl 8 (q.map Seg.enc), tI 0]) l (fun i (s : NS) => (([.sref 0 s.v 0 s.out.length, .t (tI i)], [.row false s.v 8 (s.out.map Seg.enc)]) : List AV × Heap)) (oStep d ses) (fun s => markLast ser s.out) OInv ⟨0, []⟩ rfl ⟨by simp, fun h => (h rfl).elim⟩ (by rw [o_run]; rfl)
    (fun i s x hx hI => ?_) (fun i s x s' hx hI he => oinv_step hd (hs x (List.mem_of_getElem? hx)) hI he) (fun s hI => Ev.of fun n again => ?_)
  · have hi := lt_of_some hx
    have hb := hs x (List.mem_of_getElem? hx)
    have key := inner39 d ses l x i hx s.v s.out ((s.out.length : Int) - x.fro) hb hd (by omega) (by have := hI.1; omega) (by omega) [.row false s.v 8 (s.out.map Seg.enc)] (.sref 0 s.v 0 s.out.length)
    refine key.mono fun n h again => ?_
    have h' := h again
    simp only [L39_2, vv, reduceCtorEq, Nat.reduceAdd, Nat.reduceEqDiff, (show (i : Int) < (l.length : Int) by omega), hx, Span.enc, h', oStep, Rd.go_next]
  · have hne : s.out ≠ [] := hI.2 (by intro h; exact hl (List.eq_nil_of_length_eq_zero h))
    obtain ⟨pre, x, hpx⟩ : ∃ pre x, s.out = pre ++ [x] := ⟨s.out.dropLast, s.out.getLast hne, (List.dropLast_concat_getLast hne).symm⟩
    have hlen := hI.1
    rw [hpx] at hlen
    simp only [List.length_append, List.length_cons, List.length_nil, Nat.zero_add] at hlen
    have e0 : s.out.length = pre.length + 1 := by rw [hpx]; simp
    have e1 : w64 (((pre.length + 1 : Nat) : Int) - 1) = (pre.length : Int) := by rw [w64_id (by omega) (by omega)]; omega
    rw [hpx, mark_concat]
    simp only [L39_2, vv, reduceCtorEq, Nat.reduceAdd, Nat.reduceEqDiff, Int.lt_irrefl, last_enc, List.length_append, e1, (show (pre.length : Int) < ((pre.length + 1 : Nat) : Int) by omega), Nat.le_refl, getlast_at (List.map Seg.enc pre) _ pre.length (by simp), set_last (List.map Seg.enc pre) _ _ pre.length (by simp), take_all (List.map Seg.enc pre) _ (pre.length + 1) (by simp), Seg.enc, List.take, List.drop, List.cons_append, List.nil_append, Nat.reduceLeDiff]
/-- What Batch returns. -/
def batE (ses ser : Int) (d : ByteArray) (l : List Span) : Int := if ¬ ((0 ≤ ses ∧ ses ≤ 1099511627776) ∧ (1 ≤ ser ∧ ser ≤ 1099511627776)) then 2 else if d.size = 0 then 20 else if 65536 < d.size then 4 else if inside l d.size = false then 1 else if l = [] then 20 else 0
def batL (ses ser : Int) (d : ByteArray) (l : List Span) : List Seg := if batE ses ser d l = 0 then markLast ser (raws d ses l) else []
theorem inside_ok {l : List Span} {n : Int} (h : inside l n = true) : SpanOk l n ∧ l.length ≤ 1000 := by
  unfold inside at h
  have h := of_decide_eq_true h
  have hw := (inside_iff h.1).1 h.2
  have hc := ((chkL_iff l).1 h.1).2.1
  exact ⟨fun x hx => by have := hw x hx; have := canon_to hc x hx; omega, chkL_len h.1⟩
theorem s21 (ses ser : Int) (d : ByteArray) (l : List Span) : Runs C 21 [tI ses, tI ser, .str d, .sl 2 (l.map Span.enc)] [.sl 8 ((batL ses ser d l).map Seg.enc), tI (batE ses ser d l)] := by
  refine Runs.of (fun n => e21 n _ _ _ _) ?_
  have hJ : Ev fun n => J21_3 n d (l.map Span.enc) ses ser (([.t (.bool (decide (¬ ((0 ≤ ses ∧ ses ≤ 1099511627776) ∧ (1 ≤ ser ∧ ser ≤ 1099511627776)))))], []) : List AV × Heap) = some [.sl 8 ((batL ses ser d l).map Seg.enc), tI (batE ses ser d l)] := by
    unfold batL batE
    by_cases h1 : (0 ≤ ses ∧ ses ≤ 1099511627776) ∧ (1 ≤ ser ∧ ser ≤ 1099511627776)
    · by_cases h2 : d.size = 0
      · exact Ev.of fun n => by simp [J21_3, vv, reduceCtorEq, Nat.reduceAdd, Nat.reduceEqDiff, h1, h2, cnd_eq, size_zero]
      · by_cases h3 : 65536 < d.size
        · exact Ev.of fun n => by simp [J21_3, vv, reduceCtorEq, Nat.reduceAdd, Nat.reduceEqDiff, h1, h2, h3, cnd_eq, size_zero, (show (65536 : Int) < (d.size : Int) by omega)]
        · by_cases h4 : inside l d.size = false
          · refine (s51 l d.size).mono fun n g => ?_
            simp [J21_3, vv, reduceCtorEq, Nat.reduceAdd, Nat.reduceEqDiff, h1, h2, h3, g, h4, cnd_eq, size_zero, (show ¬ (65536 : Int) < (d.size : Int) by omega)]
          · have h4' : inside l d.size = true := by simpa using h4
            by_cases h5 : l = []
            · refine (s51 l d.size).mono fun n g => ?_
              subst h5
              rw [h4'] at g
              simp only [List.map_nil] at g
              simp [J21_3, vv, reduceCtorEq, Nat.reduceAdd, Nat.reduceEqDiff, h1, h2, h3, g, h4', cnd_eq, size_zero, (show ¬ (65536 : Int) < (d.size : Int) by omega)]
            · obtain ⟨g1, g2⟩ := inside_ok h4'
              refine ((s51 l d.size).and (outer21 d ses ser l h5 g2 (by omega) g1)).mono fun n g => ?_
              have hp := List.length_pos_iff.2 h5
              simp only [J21_3, vv, reduceCtorEq, Nat.reduceAdd, Nat.reduceEqDiff, h1, not_true_eq_false, size_zero, h2, h3, g.1, g.2, h4', h5, (show ¬ (65536 : Int) < (d.size : Int) by omega), (show ¬ ((l.length : Int) = 0) by omega), beq_iff_eq]
    · exact Ev.of fun n => by simp only [J21_3, vv, reduceCtorEq, Nat.reduceAdd, Nat.reduceEqDiff, h1, not_false_eq_true]; simp
  refine ((s49 ses 0 1099511627776).and ((s49 ser 1 1099511627776).and hJ)).mono fun n h => ?_
  obtain ⟨h1, h2, h3⟩ := h
  simp only [h1, h2, vv, reduceCtorEq, Nat.reduceAdd, Nat.reduceEqDiff, wi]
  by_cases q1 : 0 ≤ ses ∧ ses ≤ 1099511627776
  · have : (!decide (1 ≤ ser ∧ ser ≤ 1099511627776)) = decide (¬ ((0 ≤ ses ∧ ses ≤ 1099511627776) ∧ (1 ≤ ser ∧ ser ≤ 1099511627776))) := by
      rw [Bool.eq_iff_iff, decide_eq_true_eq, Bool.not_eq_true', decide_eq_false_iff_not]
      simp only [q1, true_and, and_self]
    simp only [q1, vv, reduceCtorEq, Nat.reduceAdd, Nat.reduceEqDiff]
    rw [this]
    exact h3
  · have : (true : Bool) = decide (¬ ((0 ≤ ses ∧ ses ≤ 1099511627776) ∧ (1 ≤ ser ∧ ser ≤ 1099511627776))) := by symm; rw [decide_eq_true_eq]; exact fun h => q1 h.1
    simp only [q1, vv, reduceCtorEq, Nat.reduceAdd, Nat.reduceEqDiff]
    rw [this]
    exact h3
theorem s39 (ses ser : Int) (d : ByteArray) (l : List Span) : Runs C 39 [tI ses, tI ser, .str d, .sl 2 (l.map Span.enc)] [.sl 8 ((batL ses ser d l).map Seg.enc), tI (batE ses ser d l)] := by
  refine Runs.of (fun n => e39 n _ _ _ _) ?_
  have hJ : Ev fun n => J39_3 n d (l.map Span.enc) ses ser (([.t (.bool (decide (¬ ((0 ≤ ses ∧ ses ≤ 1099511627776) ∧ (1 ≤ ser ∧ ser ≤ 1099511627776)))))], []) : List AV × Heap) = some [.sl 8 ((batL ses ser d l).map Seg.enc), tI (batE ses ser d l)] := by
    unfold batL batE
    by_cases h1 : (0 ≤ ses ∧ ses ≤ 1099511627776) ∧ (1 ≤ ser ∧ ser ≤ 1099511627776)
    · by_cases h2 : d.size = 0
      · exact Ev.of fun n => by simp [J39_3, vv, reduceCtorEq, Nat.reduceAdd, Nat.reduceEqDiff, h1, h2, cnd_eq]
      · by_cases h3 : 65536 < d.size
        · exact Ev.of fun n => by simp [J39_3, vv, reduceCtorEq, Nat.reduceAdd, Nat.reduceEqDiff, h1, h2, h3, cnd_eq, (show (65536 : Int) < (d.size : Int) by omega)]
        · by_cases h4 : inside l d.size = false
          · refine (s64 l d.size).mono fun n g => ?_
            simp [J39_3, vv, reduceCtorEq, Nat.reduceAdd, Nat.reduceEqDiff, h1, h2, h3, g, h4, cnd_eq, (show ¬ (65536 : Int) < (d.size : Int) by omega)]
          · have h4' : inside l d.size = true := by simpa using h4
            by_cases h5 : l = []
            · refine (s64 l d.size).mono fun n g => ?_
              subst h5
              rw [h4'] at g
              simp only [List.map_nil] at g
              simp [J39_3, vv, reduceCtorEq, Nat.reduceAdd, Nat.reduceEqDiff, h1, h2, h3, g, h4', cnd_eq, (show ¬ (65536 : Int) < (d.size : Int) by omega)]
            · obtain ⟨g1, g2⟩ := inside_ok h4'
              refine ((s64 l d.size).and (outer39 d ses ser l h5 g2 (by omega) g1)).mono fun n g => ?_
              have hp := List.length_pos_iff.2 h5
              simp only [J39_3, vv, reduceCtorEq, Nat.reduceAdd, Nat.reduceEqDiff, h1, not_true_eq_false, h2, h3, g.1, g.2, h4', h5, (show ¬ (65536 : Int) < (d.size : Int) by omega), (show ¬ ((l.length : Int) = 0) by omega), (show ¬ ((d.size : Int) = 0) by omega), beq_iff_eq]
    · exact Ev.of fun n => by simp only [J39_3, vv, reduceCtorEq, Nat.reduceAdd, Nat.reduceEqDiff, h1, not_false_eq_true]; simp
  refine ((s63 ses 0 1099511627776).and ((s63 ser 1 1099511627776).and hJ)).mono fun n h => ?_
  obtain ⟨h1, h2, h3⟩ := h
  simp only [h1, h2, vv, reduceCtorEq, Nat.reduceAdd, Nat.reduceEqDiff, wi]
  by_cases q1 : 0 ≤ ses ∧ ses ≤ 1099511627776
  · have : (!decide (1 ≤ ser ∧ ser ≤ 1099511627776)) = decide (¬ ((0 ≤ ses ∧ ses ≤ 1099511627776) ∧ (1 ≤ ser ∧ ser ≤ 1099511627776))) := by
      rw [Bool.eq_iff_iff, decide_eq_true_eq, Bool.not_eq_true', decide_eq_false_iff_not]
      simp only [q1, true_and, and_self]
    simp only [q1, vv, reduceCtorEq, Nat.reduceAdd, Nat.reduceEqDiff]
    rw [this]
    exact h3
  · have : (true : Bool) = decide (¬ ((0 ≤ ses ∧ ses ≤ 1099511627776) ∧ (1 ≤ ser ∧ ser ≤ 1099511627776))) := by symm; rw [decide_eq_true_eq]; exact fun h => q1 h.1
    simp only [q1, vv, reduceCtorEq, Nat.reduceAdd, Nat.reduceEqDiff]
    rw [this]
    exact h3
end Ab

set_option linter.unusedVariables false
set_option linter.unusedSimpArgs false
namespace Ab
open Go
def batchS (s : Snd) : List Seg := batL s.ses (s.ser + 1) s.data (leftS s)
theorem s37 (s : Snd) (h : -4611686018427387904 ≤ s.ser ∧ s.ser ≤ 4611686018427387904) : Runs C 37 s.enc [.sl 8 ((batchS s).map Seg.enc)] := by
  refine Runs.of (fun n => e37 n _ _ _ _ _ _ _ _ _ _ _ _ _ _ _) ?_
  refine ((s54 s).and (s21 s.ses (s.ser + 1) s.data (leftS s))).mono fun n g => ?_
  obtain ⟨g1, g2⟩ := g
  simp only [Snd.enc] at g1
  rw [w64_id (x := s.ser + 1) (by omega) (by omega)]
  simp only [g1, g2, vv, reduceCtorEq, Nat.reduceAdd, Nat.reduceEqDiff, batchS]
/-- The segments with the ends of their transmissions. -/
def outsF (r : Int) : Int → List Seg → List Out
  | _, [] => []
  | t, x :: l => ⟨t + ticks r x, x⟩ :: outsF r (t + ticks r x) l
def endAt (r : Int) : Int → List Seg → Int
  | t, [] => t
  | t, x :: l => endAt r (t + ticks r x) l
theorem outsF_len (r : Int) : ∀ (l : List Seg) (t : Int), (outsF r t l).length = l.length
  | [], t => rfl
  | x :: l, t => by simp [outsF, outsF_len r l]
theorem outsF_last (r : Int) : ∀ (l : List Seg) (t : Int) (x : Seg), (outsF r t (l ++ [x])) = outsF r t l ++ [⟨endAt r t (l ++ [x]), x⟩]
  | [], t, x => rfl
  | y :: l, t, x => by
    show _ :: outsF r _ (l ++ [x]) = _
    rw [outsF_last r l]
    rfl
end Ab

set_option linter.unusedVariables false
set_option linter.unusedSimpArgs false
namespace Ab
open Go
structure TS where
  v : Nat
  at_ : Int
  out : List Out
def tStep (r : Int) (_ : Nat) (s : TS) (x : Seg) : Rd TS TS := .next ⟨s.v + 1, s.at_ + ticks r x, s.out ++ [⟨s.at_ + ticks r x, x⟩]⟩
theorem t_run {Q : Type} (r : Int) (fin : TS → Q) : ∀ (l : List Seg) (i : Nat) (s : TS), runL (fun i s x => (Rd.next ⟨s.v + 1, s.at_ + ticks r x, s.out ++ [⟨s.at_ + ticks r x, x⟩]⟩ : Rd TS Q)) fin i l s = fin ⟨s.v + l.length, endAt r s.at_ l, s.out ++ outsF r s.at_ l⟩
  | [], i, s => by simp [runL, endAt, outsF]
  | x :: l, i, s => by
    simp only [runL]
    rw [t_run r fin l]
    simp [endAt, outsF, Nat.add_assoc, Nat.add_comm 1]
def failS (s : Snd) : Snd := { s with due := 0, st := 3 }
def sentS (s : Snd) (t ser : Int) : Snd := { s with busy := t, ser := ser, due := t + 2 * s.c.rng + 1, st := 1 }
def transS (s : Snd) (l : List Seg) (t : Int) : List Tree := if s.fin < endAt s.c.rate t l then (failS s).enc ++ [.sl 9 []] else match l.getLast? with
  | some x => (sentS s (endAt s.c.rate t l) x.ser).enc ++ [.sl 9 ((outsF s.c.rate t l).map Out.enc)]
  | none => []
theorem endAt_le (r : Int) : ∀ (l : List Seg) (t : Int), t ≤ endAt r t l ∧ endAt r t l ≤ t + 1000 * l.length
  | [], t => by simp [endAt]
  | x :: l, t => by
    have h1 := ticks_nn r x
    have h2 := endAt_le r l (t + ticks r x)
    simp only [endAt, List.length_cons]
    omega
theorem take9 (l : List Out) : List.take l.length (List.map Out.enc l) = List.map Out.enc l := by rw [List.take_of_length_le (by simp)]
def zeroBox : AObj := .box [.t (tI 0), .t (tI 0), .t (tI 0), .t (tI 0), .t (tI 0), .t (tI 0), .t (tI 0), .t (tI 0), .t (.str (ByteArray.mk #[])), .t (tI 0), .t (tI 0), .t (tI 0), .t (.sl 2 []), .t (tI 0), .t (tI 0)]
def sndBox (s : Snd) : AObj := .box [.t (tI s.c.frm), .t (tI s.c.dst), .t (tI s.c.start), .t (tI s.c.fin), .t (tI s.c.rate), .t (tI s.c.rng), .t (tI s.c.loss), .t (tI s.ses), .t (.str s.data), .t (tI s.fin), .t (tI s.busy), .t (tI s.ser), .t (.sl 2 (s.acked.map Span.enc)), .t (tI s.due), .t (tI s.st)]
theorem s40 (s : Snd) (l : List Seg) (t : Int) (hl : l ≠ []) (hl2 : l.length ≤ 100000000) (ht : 0 ≤ t ∧ t ≤ 4398046511104) (hr : 0 ≤ s.c.rng ∧ s.c.rng ≤ 1048576) : Runs C 40 (s.enc ++ [.sl 8 (l.map Seg.enc), tI t]) (transS s l t) := by
  refine Runs.of (fun n => e40 n _ _ _ _ _ _ _ _ _ _ _ _ _ _ _ _ _) ?_
  obtain ⟨x, hx⟩ : ∃ x, l.getLast? = some x := ⟨l.getLast hl, List.getLast?_eq_some_getLast hl⟩
  refine loop_overQ (R := List Tree) (Q := List Tree) (fun q => q) l (fun i (u : TS) => (([.t (tI u.at_), .sref 2 u.v 0 u.out.length, .t (tI i)], [sndBox s, zeroBox, .row false u.v 9 (u.out.map Out.enc)]) : List AV × Heap))
    (fun i u x => .next ⟨u.v + 1, u.at_ + ticks s.c.rate x, u.out ++ [⟨u.at_ + ticks s.c.rate x, x⟩]⟩) (fun u => if s.fin < u.at_ then (failS s).enc ++ [.sl 9 []] else (sentS s u.at_ x.ser).enc ++ [.sl 9 (u.out.map Out.enc)])
    (fun i u => u.out.length = i ∧ 0 ≤ u.at_ ∧ u.at_ ≤ 4398046511104 + 1000 * i) ⟨0, t, []⟩ rfl ⟨rfl, ht.1, by simp only; omega⟩ ?_ (fun i u y hy hI => ?_) (fun i u y u' hy hI he => ?_) (fun u hI => Ev.of fun n again => ?_)
  · rw [t_run]
    unfold transS
    rw [hx]
    simp
  · have hi := lt_of_some hy
    have hb := ticks_nn s.c.rate y
    refine (s65 s.c.rate y).mono fun n h again => ?_
    simp only [Seg.enc] at h
    simp only [L40_1, sndBox, zeroBox, vv, reduceCtorEq, Nat.reduceAdd, Nat.reduceEqDiff, hy, (show (i : Int) < (l.length : Int) by omega), Seg.enc, h, w64_id (x := u.at_ + ticks s.c.rate y) (by omega) (by omega), w64_succ (show i < 4611686018427387904 by omega), take9, Rd.go_next, Nat.le_refl, (show u.out.length + 1 ≤ 1073741824 by omega), List.map_append, List.map_cons, List.map_nil, Out.enc, List.length_append]
  · cases he
    have hb := ticks_nn s.c.rate y
    refine ⟨by simp; omega, by simp only; omega, by simp only; omega⟩
  · have hp := List.length_pos_iff.2 hl
    have hx' : l[l.length - 1]? = some x := by rw [← List.getLast?_eq_getElem?]; exact hx
    have hI' := hI.2
    by_cases hq : s.fin < u.at_
    · simp only [L40_1, sndBox, zeroBox, vv, reduceCtorEq, Nat.reduceAdd, Nat.reduceEqDiff, Int.lt_irrefl, hq, failS, Snd.enc, List.cons_append, List.nil_append]
    · simp only [L40_1, sndBox, zeroBox, vv, reduceCtorEq, Nat.reduceAdd, Nat.reduceEqDiff, Int.lt_irrefl, hq, w64_id (x := (l.length : Int) - 1) (by omega) (by omega), (show (0 : Int) ≤ (l.length : Int) - 1 by omega), (show ((l.length : Int) - 1).toNat = l.length - 1 by omega), hx', Seg.enc, take9, w64_id (x := 2 * s.c.rng) (by omega) (by omega), w64_id (x := u.at_ + 2 * s.c.rng) (by omega) (by omega), w64_id (x := u.at_ + 2 * s.c.rng + 1) (by omega) (by omega), sentS, Snd.enc, List.cons_append, List.nil_append]
end Ab

set_option linter.unusedVariables false
set_option linter.unusedSimpArgs false
namespace Ab
open Go
/-- A loop over a list of which the state is known at each place. -/
theorem loop_at {S R α : Type} {B : Nat → S → (S → Option R) → Option R} {s : S} {out : R} (l : List α) (st : Nat → S) (hs : s = st 0)
    (hstep : ∀ i x, l[i]? = some x → Ev fun n => ∀ again, B n (st i) again = again (st (i + 1)))
    (hend : Ev fun n => ∀ again, B n (st l.length) again = some out) : Ev fun n => loopIter (B n) n s = some out := by
  refine loop_overQ (Q := R) (σ := Unit) (fun q => q) l (fun i _ => st i) (fun _ _ _ => .next ()) (fun _ => out) (fun _ _ => True) () hs trivial ?_ (fun i _ x hx _ => ?_) (fun _ _ _ _ _ _ _ => trivial) (fun _ _ => hend)
  · have : ∀ (l : List α) (i : Nat), runL (fun (_ : Nat) (_ : Unit) (_ : α) => (Rd.next () : Rd Unit R)) (fun _ => out) i l () = out := by
      intro l
      induction l with
      | nil => intro i; rfl
      | cons x l ih => intro i; exact ih (i + 1)
    exact this l 0
  · exact (hstep i x hx).mono fun n h again => by rw [h]; rfl
theorem take_succ_of {α : Type} {l : List α} {i : Nat} {x : α} (h : l[i]? = some x) : l.take (i + 1) = l.take i ++ [x] := by
  rw [List.take_add_one, h]; rfl
theorem endAt_app (r : Int) : ∀ (l : List Seg) (t : Int) (x : Seg), endAt r t (l ++ [x]) = endAt r t l + ticks r x
  | [], t, x => rfl
  | y :: l, t, x => by simp only [List.cons_append, endAt]; exact endAt_app r l _ x
/-- A sender that sends, and what it sends. -/
def sendF (s : Snd) (t : Int) (l : List Seg) : Snd × List Out :=
  match l.getLast? with
  | none => (failS s, [])
  | some x => if s.fin < endAt s.c.rate t l ∨ 1099511627776 < x.ser then (failS s, []) else (sentS s (endAt s.c.rate t l) x.ser, outsF s.c.rate t l)
def retS (p : Snd × List Out) : List Tree := p.1.enc ++ [.sl 9 (p.2.map Out.enc)]
theorem s36 (s : Snd) (t : Int) (l : List Seg) (hl2 : l.length ≤ 100000000) (ht : 0 ≤ t ∧ t ≤ 4398046511104) (hr : 0 ≤ s.c.rng ∧ s.c.rng ≤ 1048576) : Runs C 36 (s.enc ++ [tI t, .sl 8 (l.map Seg.enc)]) (retS (sendF s t l)) := by
  refine Runs.of (fun n => e36 n _ _ _ _ _ _ _ _ _ _ _ _ _ _ _ _ _) ?_
  refine loop_at l (fun i => (([.t (tI i)], [sndBox s, zeroBox, .box [.t (tI (endAt s.c.rate t (l.take i)))], .row false i 9 ((outsF s.c.rate t (l.take i)).map Out.enc), .box [.sref 3 i 0 i], .box []]) : List AV × Heap)) rfl (fun i x hx => ?_) ?_
  · have hi := lt_of_some hx
    have hb := ticks_nn s.c.rate x
    have hE := endAt_le s.c.rate (l.take i) t
    have hL : (l.take i).length = i := by rw [List.length_take]; omega
    have hO := outsF_len s.c.rate (l.take i) t
    rw [hL] at hE hO
    refine (s31 s.c.rate x).mono fun n h again => ?_
    simp only [Seg.enc] at h
    have e9 : List.take i (List.map Out.enc (outsF s.c.rate t (l.take i))) = List.map Out.enc (outsF s.c.rate t (l.take i)) := by rw [List.take_of_length_le (by simp [hO])]
    rw [take_succ_of hx, outsF_last, endAt_app]
    simp only [L36_2, sndBox, zeroBox, vv, reduceCtorEq, Nat.reduceAdd, Nat.reduceEqDiff, hx, (show (i : Int) < (l.length : Int) by omega), Seg.enc, h, w64_id (x := endAt s.c.rate t (l.take i) + ticks s.c.rate x) (by omega) (by omega), w64_succ (show i < 4611686018427387904 by omega), e9, hO, Nat.le_refl, (show i + 1 ≤ 1073741824 by omega), List.map_append, List.map_cons, List.map_nil, Out.enc, Nat.add_eq]
  · rw [List.take_length]
    cases hx : l.getLast? with
    | none =>
      rw [List.getLast?_eq_none_iff] at hx
      subst hx
      refine (s62 s).mono fun n h again => ?_
      simp only [Snd.enc] at h
      simp only [L36_2, sndBox, zeroBox, vv, reduceCtorEq, Nat.reduceAdd, Nat.reduceEqDiff, Int.lt_irrefl, h, outsF, List.map_nil]
      simp [cnd_eq, retS, sendF, failS, Snd.enc, h, vv, reduceCtorEq, Nat.reduceAdd, Nat.reduceEqDiff]
    | some x =>
      obtain ⟨pre, rfl⟩ : ∃ pre, l = pre ++ [x] := by
        rw [List.getLast?_eq_some_iff] at hx
        exact hx
      have hE := endAt_le s.c.rate (pre ++ [x]) t
      have hO := outsF_len s.c.rate pre t
      have hlen : (pre ++ [x]).length = pre.length + 1 := by simp
      rw [hlen] at hE hl2 ⊢
      refine ((s62 s).and (s48 { s with busy := endAt s.c.rate t (pre ++ [x]), ser := x.ser, st := 1 } (by simp only; omega))).mono fun n h again => ?_
      obtain ⟨h1, h2⟩ := h
      simp only [Snd.enc, dueS] at h1 h2
      have hb : ((outsF s.c.rate t pre).map Out.enc ++ [Out.enc ⟨endAt s.c.rate t (pre ++ [x]), x⟩])[pre.length]? = some (Out.enc ⟨endAt s.c.rate t (pre ++ [x]), x⟩) := by
        rw [List.getElem?_append_right (by simp [hO])]
        simp [hO]
      have e1 : w64 (((pre.length + 1 : Nat) : Int) - 1) = (pre.length : Int) := by rw [w64_id (by omega) (by omega)]; omega
      have e2 : ¬ (((pre.length + 1 : Nat) : Int) = 0) := by omega
      have e3 : List.take (pre.length + 1) ((outsF s.c.rate t pre).map Out.enc ++ [Out.enc ⟨endAt s.c.rate t (pre ++ [x]), x⟩]) = (outsF s.c.rate t pre).map Out.enc ++ [Out.enc ⟨endAt s.c.rate t (pre ++ [x]), x⟩] := by rw [List.take_of_length_le (by simp [hO])]
      rw [outsF_last]
      simp only [L36_2, sndBox, zeroBox, vv, reduceCtorEq, Nat.reduceAdd, Nat.reduceEqDiff, Int.lt_irrefl, hlen, List.length_append, List.map_append, List.map_cons, List.map_nil, e1, beq_iff_eq, e2, hb, (show (pre.length : Int) < ((pre.length + 1 : Nat) : Int) by omega)]
      simp only [Out.enc] at e3
      simp only [Out.enc, vv, reduceCtorEq, Nat.reduceAdd, Nat.reduceEqDiff]
      by_cases q1 : s.fin < endAt s.c.rate t (pre ++ [x])
      · simp only [J36_1, q1, vv, reduceCtorEq, Nat.reduceAdd, Nat.reduceEqDiff, h1, retS, sendF, List.getLast?_concat, failS, Snd.enc, List.map_nil, List.cons_append, List.nil_append]
      · by_cases q2 : 1099511627776 < x.ser
        · simp only [J36_1, q1, q2, vv, reduceCtorEq, Nat.reduceAdd, Nat.reduceEqDiff, h1, retS, sendF, List.getLast?_concat, failS, Snd.enc, List.map_nil, List.cons_append, List.nil_append]
        · simp only [J36_1, q1, q2, vv, reduceCtorEq, Nat.reduceAdd, Nat.reduceEqDiff, h2, e3, retS, sendF, List.getLast?_concat, sentS, Snd.enc, outsF_last, List.map_append, List.map_cons, List.map_nil, Out.enc, List.cons_append, List.nil_append]
end Ab
