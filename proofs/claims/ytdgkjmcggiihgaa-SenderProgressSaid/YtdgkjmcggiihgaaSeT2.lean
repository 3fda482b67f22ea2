/- Parts of the proof: see the last text. -/
import Derived.Test.YtdgkjmcggiihgaaSeQ
set_option linter.unusedVariables false
set_option linter.unusedSimpArgs false
namespace Ab
open Go
theorem cut_mem : ∀ (k : Nat) (a b : Int), (b - a).toNat ≤ k → ∀ p ∈ cut a b, a ≤ p.1 ∧ p.1 < p.2 ∧ p.2 ≤ b ∧ p.2 ≤ p.1 + 16
  | k, a, b, h, p, hp => by
    by_cases hq : a < b
    · rw [cut_pos hq] at hp
      have hc := cutE_gt hq
      rcases List.mem_cons.1 hp with rfl | hp
      · have : cutE a b ≤ a + 16 := by unfold cutE; split <;> omega
        exact ⟨Int.le_refl _, hc.1, hc.2, this⟩
      · cases k with
        | zero => omega
        | succ k =>
          have := cut_mem k (cutE a b) b (by omega) p hp
          omega
    · rw [cut_neg hq] at hp
      cases hp
theorem cut_ne {a b : Int} (h : a < b) : cut a b ≠ [] := by rw [cut_pos h]; simp
/-- A segment of data that is well formed, of a session, not a checkpoint. -/
structure Piece (d : ByteArray) (ses : Int) (x : Seg) : Prop where
  kind : x.kind = 1
  ses_ : x.ses = ses
  ser : x.ser = 0
  tot : x.tot = d.size
  chk : x.chk = false
  cl : x.claims = []
  off : 0 ≤ x.off ∧ x.off < d.size
  sz : 1 ≤ x.data.size ∧ x.data.size ≤ 16
  fit : (x.data.size : Int) ≤ d.size - x.off
theorem raw_piece {d : ByteArray} {ses : Int} {p : Int × Int} (h : 0 ≤ p.1 ∧ p.1 < p.2 ∧ p.2 ≤ d.size ∧ p.2 ≤ p.1 + 16) : Piece d ses (raw d ses p) := by
  have hs : (raw d ses p).data.size = p.2.toNat - p.1.toNat := by
    simp only [raw, ByteArray.size_extract]
    omega
  exact ⟨rfl, rfl, rfl, rfl, rfl, rfl, ⟨h.1, by simp only [raw]; omega⟩, by omega, by rw [hs]; simp only [raw]; omega⟩
theorem piece_ok {d : ByteArray} {ses : Int} {x : Seg} (h : Piece d ses x) (hs : 0 ≤ ses ∧ ses ≤ 1099511627776) (hd : 1 ≤ d.size ∧ d.size ≤ 65536) : chkG x = 0 := by
  have k := h.kind
  have n : SegNum x := by
    unfold SegNum
    have := h.ses_
    have := h.tot
    have := h.off
    refine ⟨by omega, by omega, by omega, fun _ => ⟨by omega, by omega, fun hc => ?_, fun _ => h.ser⟩⟩
    rw [h.chk] at hc
    cases hc
  have c : SegCon x := by
    unfold SegCon
    have := h.tot
    have := h.fit
    exact ⟨by omega, by omega, fun _ => ⟨h.sz, by omega, h.cl⟩⟩
  unfold chkG
  rw [if_neg (by omega), if_neg (fun f => f n), if_neg (fun f => f c)]
theorem mark_ok {d : ByteArray} {ses ser : Int} {x : Seg} (h : Piece d ses x) (hs : 0 ≤ ses ∧ ses ≤ 1099511627776) (hr : 1 ≤ ser ∧ ser ≤ 1099511627776) (hd : 1 ≤ d.size ∧ d.size ≤ 65536) : chkG { x with ser := ser, chk := true } = 0 := by
  have k := h.kind
  have n : SegNum { x with ser := ser, chk := true } := by
    unfold SegNum
    have := h.ses_
    have := h.tot
    have := h.off
    refine ⟨by simp only; omega, by simp only; omega, by simp only; omega, fun _ => ⟨by simp only; omega, by simp only; omega, fun _ => hr, fun hc => ?_⟩⟩
    cases hc
  have c : SegCon { x with ser := ser, chk := true } := by
    unfold SegCon
    have := h.tot
    have := h.fit
    exact ⟨by simp only; omega, by simp only; omega, fun _ => ⟨h.sz, by simp only; omega, h.cl⟩⟩
  unfold chkG
  rw [if_neg (by simp only; omega), if_neg (fun f => f n), if_neg (fun f => f c)]
theorem raws_piece {d : ByteArray} {ses : Int} {l : List Span} (h : SpanOk l d.size) : ∀ x ∈ raws d ses l, Piece d ses x := by
  intro x hx
  unfold raws at hx
  obtain ⟨y, hy, hx⟩ := List.mem_flatMap.1 hx
  obtain ⟨p, hp, rfl⟩ := List.mem_map.1 hx
  have h1 := h y hy
  have h2 := cut_mem _ y.fro y.to (Nat.le_refl _) p hp
  exact raw_piece (by omega)
theorem raws_ne {d : ByteArray} {ses : Int} {l : List Span} (h : SpanOk l d.size) (hl : l ≠ []) : raws d ses l ≠ [] := by
  cases l with
  | nil => exact absurd rfl hl
  | cons y l =>
    have h1 := h y (by simp)
    have h2 := cut_ne h1.2.1
    unfold raws
    rw [List.flatMap_cons]
    intro e
    exact h2 (List.map_eq_nil_iff.1 (List.append_eq_nil_iff.1 e).1)
theorem raws_len {d : ByteArray} {ses : Int} : ∀ {l : List Span} {b n : Int}, Canon b l → b < n → (∀ x ∈ l, x.to ≤ n) → ((raws d ses l).length : Int) ≤ n - b
  | [], b, n, _, h, _ => by simp [raws]; omega
  | x :: l, b, n, h, hb, ht => by
    have h1 := h.1
    have h2 := h.2.1
    have h3 := ht x (by simp)
    have h4 := cut_len _ x.fro x.to (Nat.le_refl _)
    rw [if_pos h2] at h4
    have e : (raws d ses (x :: l)).length = (cut x.fro x.to).length + (raws d ses l).length := by
      unfold raws
      rw [List.flatMap_cons, List.length_append, List.length_map]
    rw [e]
    by_cases he : x.to < n
    · have := raws_len (d := d) (ses := ses) h.2.2 he (fun y hy => ht y (by simp [hy]))
      omega
    · cases l with
      | nil =>
        simp only [raws, List.flatMap_nil, List.length_nil]
        omega
      | cons y l =>
        have := h.2.2.1
        have := h.2.2.2.1
        have := ht y (by simp)
        omega
theorem canon_base {l : List Span} {b n : Int} (h : Canon b l) (hw : Within l n) : Canon (-1) l := by
  cases l with
  | nil => trivial
  | cons x l => exact ⟨by have := hw x (by simp); omega, h.2⟩
/-- What Batch returns: the pieces, the last one a checkpoint. -/
structure Bat (d : ByteArray) (ses ser : Int) (l : List Seg) : Prop where
  ex : ∃ pre x, l = pre ++ [{ x with ser := ser, chk := true }] ∧ Piece d ses x ∧ ∀ y ∈ pre, Piece d ses y
  len : (l.length : Int) ≤ d.size + 1
theorem inside_of {l : List Span} {n : Int} (h : chkL l = 0) (hw : Within l n) : inside l n = true := by
  unfold inside
  exact decide_eq_true ⟨h, (inside_iff h).2 hw⟩
theorem batE_zero {ses ser : Int} {d : ByteArray} {l : List Span} (hs : 0 ≤ ses ∧ ses ≤ 1099511627776) (hr : 1 ≤ ser ∧ ser ≤ 1099511627776) (hd : 1 ≤ d.size ∧ d.size ≤ 65536) (hi : inside l d.size = true) (hl : l ≠ []) : batE ses ser d l = 0 := by
  unfold batE
  rw [if_neg (fun f => f ⟨hs, hr⟩), if_neg (by omega), if_neg (by omega), if_neg (by rw [hi]; simp), if_neg hl]
theorem bat_form {ses ser : Int} {d : ByteArray} {l : List Span} (h : batE ses ser d l = 0) : Bat d ses ser (batL ses ser d l) := by
  have h0 := h
  unfold batE at h0
  split at h0
  · cases h0
  split at h0
  · cases h0
  split at h0
  · cases h0
  split at h0
  · cases h0
  split at h0
  · cases h0
  rename_i k1 k2 k3 k4 k5
  have k4 : inside l d.size = true := by simpa using k4
  obtain ⟨g1, g2⟩ := inside_ok k4
  have hn := raws_ne (ses := ses) g1 k5
  obtain ⟨pre, x, hx⟩ : ∃ pre x, raws d ses l = pre ++ [x] := ⟨_, _, (List.dropLast_concat_getLast hn).symm⟩
  have hp := raws_piece (ses := ses) g1
  rw [hx] at hp
  have e : batL ses ser d l = pre ++ [{ x with ser := ser, chk := true }] := by
    unfold batL
    rw [if_pos h, hx, mark_concat]
  refine ⟨⟨pre, x, e, hp x (by simp), fun y hy => hp y (by simp [hy])⟩, ?_⟩
  unfold inside at k4
  have k4 := of_decide_eq_true k4
  have hw := (inside_iff k4.1).1 k4.2
  have := raws_len (d := d) (ses := ses) (n := d.size) (canon_base ((chkL_iff _).1 k4.1).2.1 hw) (by omega) (fun x hx => (hw x hx).2)
  rw [hx] at this
  rw [e]
  simp only [List.length_append, List.length_cons, List.length_nil] at this ⊢
  omega
/-- The fields of a sender are valid, and few bytes are acknowledged. -/
structure FOk (s : Snd) : Prop where
  f : chkF s = 0
  few : s.acked.length ≤ 900
theorem FOk.dat {s : Snd} (h : FOk s) : 1 ≤ s.data.size ∧ s.data.size ≤ 65536 := (chkF_zero h.f).2.1.2.1
theorem FOk.ack {s : Snd} (h : FOk s) : chkL s.acked = 0 := (chkF_zero h.f).2.2.1
theorem FOk.win {s : Snd} (h : FOk s) : Within s.acked s.data.size := (inside_iff h.ack).1 (chkF_zero h.f).2.2.2
theorem FOk.left {s : Snd} (h : FOk s) : leftS s = min_ (wholeS s.data) s.acked := left_eq h.dat h.ack h.few
theorem FOk.left_nil {s : Snd} (h : FOk s) : leftS s = [] ↔ complete s = true := by
  rw [← left_len h.dat h.ack h.win h.few, List.length_eq_zero_iff]
theorem FOk.left_mem {s : Snd} (h : FOk s) (t : Int) : memS t (leftS s) ↔ (0 ≤ t ∧ t < s.data.size) ∧ ¬ memS t s.acked := by
  rw [h.left]
  exact (left_spec h.dat h.ack h.win).2.2 t
theorem FOk.left_chk {s : Snd} (h : FOk s) : chkL (leftS s) = 0 := by
  rw [h.left]
  obtain ⟨k1, k2, k3⟩ := left_spec h.dat h.ack h.win
  have := min_len h.dat h.ack
  have := h.few
  have := h.dat
  rw [chkL_iff]
  exact ⟨by omega, k1, fun x hx => by have := k2 x hx; omega⟩
theorem FOk.left_win {s : Snd} (h : FOk s) : Within (leftS s) s.data.size := by
  rw [h.left]
  exact (left_spec h.dat h.ack h.win).2.1
theorem FOk.rng {s : Snd} (h : FOk s) : 1 ≤ s.c.rng ∧ s.c.rng ≤ 1048576 ∧ 1 ≤ s.c.rate ∧ s.c.rate ≤ 1000 ∧ 0 ≤ s.c.start ∧ s.c.fin ≤ 1099511627776 - 2 * s.c.rng := by
  obtain ⟨c1, c2⟩ := chkC_zero (chkF_zero h.f).1
  unfold ConOk at c1
  omega
theorem FOk.num {s : Snd} (h : FOk s) : (0 ≤ s.ses ∧ s.ses ≤ 1099511627776) ∧ (s.c.start ≤ s.busy ∧ s.busy ≤ s.fin) ∧ s.fin ≤ s.c.fin ∧ (1 ≤ s.ser ∧ s.ser ≤ 1099511627776) := by
  have := (chkF_zero h.f).2.1
  unfold RngS at this
  omega
theorem FOk.bat {s : Snd} (h : FOk s) (hc : complete s = false) (hr : s.ser < 1099511627776) : batE s.ses (s.ser + 1) s.data (leftS s) = 0 := by
  have := h.num
  refine batE_zero this.1 (by omega) h.dat (inside_of h.left_chk h.left_win) fun e => ?_
  rw [h.left_nil.1 e] at hc
  cases hc
theorem batch_max {s : Snd} (hr : s.ser = 1099511627776) : batchS s = [] := by
  unfold batchS batL
  rw [if_neg]
  unfold batE
  rw [if_pos (by omega)]
  omega
end Ab

set_option linter.unusedVariables false
set_option linter.unusedSimpArgs false
namespace Ab
open Go
def zeroS : Snd := ⟨⟨0, 0, 0, 0, 0, 0, 0⟩, 0, ByteArray.mk #[], 0, 0, 0, [], 0, 0⟩
def ret3 (p : Snd × List Out × Int) : List Tree := p.1.enc ++ [.sl 9 (p.2.1.map Out.enc), tI p.2.2]
def errF (e : Int) : Snd × List Out × Int := (zeroS, [], e)
theorem trans_send {s : Snd} {t : Int} {l : List Seg} {x : Seg} (hx : l.getLast? = some x) (hs : x.ser ≤ 1099511627776) : transS s l t = retS (sendF s t l) := by
  unfold transS sendF
  rw [hx]
  by_cases hq : s.fin < endAt s.c.rate t l
  · simp [hq, retS]
  · simp [hq, retS, (show ¬ 1099511627776 < x.ser by omega)]
def startS (c : Con) (ses : Int) (d : ByteArray) (e : Int) : Snd := ⟨c, ses, d, e, 0, 0, [], 0, 0⟩
def startF (c : Con) (ses : Int) (d : ByteArray) (b e : Int) : Snd × List Out × Int :=
  if chkC c ≠ 0 then errF 1 else if ¬ (0 ≤ ses ∧ ses ≤ 1099511627776) then errF 2 else if d.size = 0 then errF 20 else if 65536 < d.size then errF 4
  else if b < c.start ∨ e < b ∨ c.fin < e then errF 2
  else if (sendF (startS c ses d e) b (batL ses 1 d (wholeS d))).1.st = 3 then errF 16
  else ((sendF (startS c ses d e) b (batL ses 1 d (wholeS d))).1, (sendF (startS c ses d e) b (batL ses 1 d (wholeS d))).2, 0)
theorem chk_nil : chkL [] = 0 := by simp [chkL, runL]
theorem left_start {d : ByteArray} (hd : 1 ≤ d.size ∧ d.size ≤ 65536) (s : Snd) (h1 : s.data = d) (h2 : s.acked = []) : leftS s = wholeS d := by
  have e : leftS s = min_ (wholeS d) [] := by
    have := left_eq (s := s) (by rw [h1]; exact hd) (by rw [h2]; exact chk_nil) (by rw [h2]; simp)
    rw [this, h1, h2]
  rw [e]
  obtain ⟨k1, k2, k3⟩ := left_spec (a := []) hd chk_nil (fun x hx => by cases hx)
  exact canon_unique k1 ((chkL_iff _).1 (chk_whole hd)).2.1 fun t => by rw [k3]; simp [memS, wholeS]
theorem whole_in {d : ByteArray} (hd : 1 ≤ d.size ∧ d.size ≤ 65536) : inside (wholeS d) d.size = true := inside_of (chk_whole hd) fun x hx => by
  simp only [wholeS, List.mem_singleton] at hx
  subst hx
  exact ⟨Int.le_refl _, Int.le_refl _⟩
theorem start_bat {ses : Int} {d : ByteArray} (hs : 0 ≤ ses ∧ ses ≤ 1099511627776) (hd : 1 ≤ d.size ∧ d.size ≤ 65536) : batE ses 1 d (wholeS d) = 0 := batE_zero hs (by omega) hd (whole_in hd) (by simp [wholeS])
theorem Bat.len2 {d : ByteArray} {ses ser : Int} {l : List Seg} (h : Bat d ses ser l) (hd : d.size ≤ 65536) : l.length ≤ 100000000 := by
  have := h.len
  omega
theorem s11 (c : Con) (ses : Int) (d : ByteArray) (b e : Int) : Runs C 11 (c.enc ++ [tI ses, .str d, tI b, tI e]) (ret3 (startF c ses d b e)) := by
  refine Runs.of (fun n => e11 n _ _ _ _ _ _ _ _ _ _ _) ?_
  by_cases h1 : chkC c = 0
  · by_cases h2 : 0 ≤ ses ∧ ses ≤ 1099511627776
    · by_cases h3 : d.size = 0
      · refine ((s34 c).and (s35 ses 0 1099511627776)).mono fun n g => ?_
        obtain ⟨g1, g2⟩ := g
        simp only [Con.enc] at g1
        simp only [g1, g2, vv, reduceCtorEq, Nat.reduceAdd, Nat.reduceEqDiff, wi, h1, h2, bne_self_eq_false, size_zero, h3, startF, ne_eq, not_true_eq_false, ret3, errF, zeroS, Snd.enc, List.map_nil, List.cons_append, List.nil_append]
      · by_cases h4 : 65536 < d.size
        · refine ((s34 c).and (s35 ses 0 1099511627776)).mono fun n g => ?_
          obtain ⟨g1, g2⟩ := g
          simp only [Con.enc] at g1
          simp only [g1, g2, vv, reduceCtorEq, Nat.reduceAdd, Nat.reduceEqDiff, wi, h1, h2, bne_self_eq_false, size_zero, h3, h4, (show (65536 : Int) < (d.size : Int) by omega), startF, ne_eq, not_true_eq_false, ret3, errF, zeroS, Snd.enc, List.map_nil, List.cons_append, List.nil_append]
        · by_cases h5 : b < c.start ∨ e < b ∨ c.fin < e
          · refine ((s34 c).and (s35 ses 0 1099511627776)).mono fun n g => ?_
            obtain ⟨g1, g2⟩ := g
            simp only [Con.enc] at g1
            have r : ret3 (startF c ses d b e) = ret3 (errF 2) := by simp only [startF, h1, h2, h3, h4, h5, ne_eq, not_true_eq_false, if_false, if_true, and_self]
            rw [r]
            simp only [g1, g2, vv, reduceCtorEq, Nat.reduceAdd, Nat.reduceEqDiff, wi, h1, h2, bne_self_eq_false, size_zero, h3, h4, (show ¬ (65536 : Int) < (d.size : Int) by omega)]
            by_cases q1 : b < c.start
            · simp only [J11_1, q1, vv, reduceCtorEq, Nat.reduceAdd, Nat.reduceEqDiff, ret3, errF, zeroS, Snd.enc, List.map_nil, List.cons_append, List.nil_append]
            · by_cases q2 : e < b
              · simp only [J11_1, q1, q2, vv, reduceCtorEq, Nat.reduceAdd, Nat.reduceEqDiff, ret3, errF, zeroS, Snd.enc, List.map_nil, List.cons_append, List.nil_append]
              · have q3 : c.fin < e := by omega
                simp only [J11_1, q1, q2, q3, vv, reduceCtorEq, Nat.reduceAdd, Nat.reduceEqDiff, ret3, errF, zeroS, Snd.enc, List.map_nil, List.cons_append, List.nil_append]
          · have hd : 1 ≤ d.size ∧ d.size ≤ 65536 := by omega
            obtain ⟨c1, c2⟩ := chkC_zero h1
            unfold ConOk at c1
            have hb := start_bat h2 hd
            have hl := (bat_form hb).len2 hd.2
            have e37 : batchS ⟨⟨0, 0, 0, 0, 0, 0, 0⟩, ses, d, 0, 0, 0, [], 0, 0⟩ = batL ses 1 d (wholeS d) := by
              unfold batchS
              rw [left_start hd _ rfl rfl]
              rfl
            have t37 := s37 ⟨⟨0, 0, 0, 0, 0, 0, 0⟩, ses, d, 0, 0, 0, [], 0, 0⟩ (by simp)
            rw [e37] at t37
            refine ((s34 c).and ((s35 ses 0 1099511627776).and (t37.and (s36 (startS c ses d e) b _ hl (by omega) (by simp only [startS]; omega))))).mono fun n g => ?_
            obtain ⟨g1, g2, g3, g4⟩ := g
            simp only [Con.enc] at g1
            have r : startF c ses d b e = if (sendF (startS c ses d e) b (batL ses 1 d (wholeS d))).1.st = 3 then errF 16 else ((sendF (startS c ses d e) b (batL ses 1 d (wholeS d))).1, (sendF (startS c ses d e) b (batL ses 1 d (wholeS d))).2, 0) := by
              simp only [startF, h1, h2, h3, h4, h5, ne_eq, not_true_eq_false, if_false, if_true, and_self]
            rw [r]
            generalize sendF (startS c ses d e) b (batL ses 1 d (wholeS d)) = p at g4
            obtain ⟨p, o⟩ := p
            simp only [Snd.enc, startS, retS, List.cons_append, List.nil_append, List.map_nil] at g3 g4
            have q1 : ¬ b < c.start := by omega
            have q2 : ¬ e < b := by omega
            have q3 : ¬ c.fin < e := by omega
            simp only [g1, g2, vv, reduceCtorEq, Nat.reduceAdd, Nat.reduceEqDiff, wi, h1, h2, bne_self_eq_false, size_zero, h3, h4, (show ¬ (65536 : Int) < (d.size : Int) by omega), J11_1, q1, q2, q3, g3, g4, beq_iff_eq]
            by_cases hp : p.st = 3
            · simp only [hp, vv, reduceCtorEq, Nat.reduceAdd, Nat.reduceEqDiff, ret3, errF, zeroS, Snd.enc, List.map_nil, List.cons_append, List.nil_append]
            · simp only [hp, vv, reduceCtorEq, Nat.reduceAdd, Nat.reduceEqDiff, ret3, Snd.enc, List.cons_append, List.nil_append]
    · refine ((s34 c).and (s35 ses 0 1099511627776)).mono fun n g => ?_
      obtain ⟨g1, g2⟩ := g
      simp only [Con.enc] at g1
      simp only [g1, g2, vv, reduceCtorEq, Nat.reduceAdd, Nat.reduceEqDiff, wi, h1, h2, bne_self_eq_false, startF, ne_eq, not_true_eq_false, not_false_eq_true, ret3, errF, zeroS, Snd.enc, List.map_nil, List.cons_append, List.nil_append]
  · refine (s34 c).mono fun n g1 => ?_
    simp only [Con.enc] at g1
    simp only [g1, vv, reduceCtorEq, Nat.reduceAdd, Nat.reduceEqDiff, h1, bne_iff_ne, ne_eq, not_false_eq_true, startF, ret3, errF, zeroS, Snd.enc, List.map_nil, List.cons_append, List.nil_append]
theorem Bat.last {d : ByteArray} {ses ser : Int} {l : List Seg} (h : Bat d ses ser l) : ∃ x, l.getLast? = some x ∧ x.ser = ser ∧ l ≠ [] := by
  obtain ⟨pre, x, rfl, _⟩ := h.ex
  exact ⟨_, List.getLast?_concat .., rfl, by simp⟩
theorem s12 (c : Con) (ses : Int) (d : ByteArray) (b e : Int) : Runs C 12 (c.enc ++ [tI ses, .str d, tI b, tI e]) (ret3 (startF c ses d b e)) := by
  refine Runs.of (fun n => e12 n _ _ _ _ _ _ _ _ _ _ _) ?_
  by_cases h1 : chkC c = 0
  · by_cases h2 : 0 ≤ ses ∧ ses ≤ 1099511627776
    · have w1 : ¬ ses < 0 := by omega
      have w2 : ¬ 1099511627776 < ses := by omega
      by_cases h3 : d.size = 0
      · refine (s38 c).mono fun n g1 => ?_
        simp only [Con.enc] at g1
        simp only [g1, vv, reduceCtorEq, Nat.reduceAdd, Nat.reduceEqDiff, h1, bne_self_eq_false, w1, w2, J12_2, h2, h3, startF, ne_eq, not_true_eq_false, ret3, errF, zeroS, Snd.enc, List.map_nil, List.cons_append, List.nil_append, nc0, beq_self_eq_true]
      · by_cases h4 : 65536 < d.size
        · refine (s38 c).mono fun n g1 => ?_
          simp only [Con.enc] at g1
          simp only [g1, vv, reduceCtorEq, Nat.reduceAdd, Nat.reduceEqDiff, h1, bne_self_eq_false, w1, w2, J12_2, h2, h3, h4, (show (65536 : Int) < (d.size : Int) by omega), beq_iff_eq, (show ¬ ((d.size : Int) = 0) by omega), startF, ne_eq, not_true_eq_false, ret3, errF, zeroS, Snd.enc, List.map_nil, List.cons_append, List.nil_append]
        · by_cases h5 : b < c.start ∨ e < b ∨ c.fin < e
          · refine (s38 c).mono fun n g1 => ?_
            simp only [Con.enc] at g1
            have r : ret3 (startF c ses d b e) = ret3 (errF 2) := by simp only [startF, h1, h2, h3, h4, h5, ne_eq, not_true_eq_false, if_false, if_true, and_self]
            rw [r]
            simp only [g1, vv, reduceCtorEq, Nat.reduceAdd, Nat.reduceEqDiff, h1, bne_self_eq_false, w1, w2, J12_2, h2, h3, h4, (show ¬ (65536 : Int) < (d.size : Int) by omega), beq_iff_eq, (show ¬ ((d.size : Int) = 0) by omega)]
            by_cases q1 : b < c.start
            · simp only [J12_1, q1, vv, reduceCtorEq, Nat.reduceAdd, Nat.reduceEqDiff, ret3, errF, zeroS, Snd.enc, List.map_nil, List.cons_append, List.nil_append]
            · by_cases q2 : e < b
              · simp only [J12_1, q1, q2, vv, reduceCtorEq, Nat.reduceAdd, Nat.reduceEqDiff, ret3, errF, zeroS, Snd.enc, List.map_nil, List.cons_append, List.nil_append]
              · have q3 : c.fin < e := by omega
                simp only [J12_1, q1, q2, q3, vv, reduceCtorEq, Nat.reduceAdd, Nat.reduceEqDiff, ret3, errF, zeroS, Snd.enc, List.map_nil, List.cons_append, List.nil_append]
          · have hd : 1 ≤ d.size ∧ d.size ≤ 65536 := by omega
            obtain ⟨c1, c2⟩ := chkC_zero h1
            unfold ConOk at c1
            have hb := start_bat h2 hd
            have hl := (bat_form hb).len2 hd.2
            obtain ⟨x, hx, hxs, hne⟩ := (bat_form hb).last
            have t40 := s40 (startS c ses d e) _ b hne hl (by omega) (by simp only [startS]; omega)
            rw [trans_send hx (by omega)] at t40
            have t39 := s39 ses 1 d (wholeS d)
            rw [hb] at t39
            refine ((s38 c).and (t39.and t40)).mono fun n g => ?_
            obtain ⟨g1, g3, g4⟩ := g
            simp only [Con.enc] at g1
            have r : startF c ses d b e = if (sendF (startS c ses d e) b (batL ses 1 d (wholeS d))).1.st = 3 then errF 16 else ((sendF (startS c ses d e) b (batL ses 1 d (wholeS d))).1, (sendF (startS c ses d e) b (batL ses 1 d (wholeS d))).2, 0) := by
              simp only [startF, h1, h2, h3, h4, h5, ne_eq, not_true_eq_false, if_false, if_true, and_self]
            rw [r]
            generalize sendF (startS c ses d e) b (batL ses 1 d (wholeS d)) = p at g4
            obtain ⟨p, o⟩ := p
            simp only [Snd.enc, startS, retS, wholeS, Span.enc, List.cons_append, List.nil_append, List.map_nil, List.map_cons] at g3 g4
            have q1 : ¬ b < c.start := by omega
            have q2 : ¬ e < b := by omega
            have q3 : ¬ c.fin < e := by omega
            simp only [g1, vv, reduceCtorEq, Nat.reduceAdd, Nat.reduceEqDiff, h1, bne_self_eq_false, w1, w2, J12_2, h2, h3, h4, (show ¬ (65536 : Int) < (d.size : Int) by omega), (show ¬ ((d.size : Int) = 0) by omega), J12_1, q1, q2, q3, g3, wholeS, g4, beq_iff_eq]
            by_cases hp : p.st = 3
            · simp only [hp, vv, reduceCtorEq, Nat.reduceAdd, Nat.reduceEqDiff, ret3, errF, zeroS, Snd.enc, List.map_nil, List.cons_append, List.nil_append]
            · simp only [hp, vv, reduceCtorEq, Nat.reduceAdd, Nat.reduceEqDiff, ret3, Snd.enc, List.cons_append, List.nil_append]
    · refine (s38 c).mono fun n g1 => ?_
      simp only [Con.enc] at g1
      have r : ret3 (startF c ses d b e) = ret3 (errF 2) := by simp only [startF, h1, h2, ne_eq, not_true_eq_false, not_false_eq_true, if_false, if_true]
      rw [r]
      by_cases w1 : ses < 0
      · simp only [g1, vv, reduceCtorEq, Nat.reduceAdd, Nat.reduceEqDiff, h1, bne_self_eq_false, w1, J12_2, ret3, errF, zeroS, Snd.enc, List.map_nil, List.cons_append, List.nil_append]
      · have w2 : 1099511627776 < ses := by omega
        simp only [g1, vv, reduceCtorEq, Nat.reduceAdd, Nat.reduceEqDiff, h1, bne_self_eq_false, w1, w2, J12_2, ret3, errF, zeroS, Snd.enc, List.map_nil, List.cons_append, List.nil_append]
  · refine (s38 c).mono fun n g1 => ?_
    simp only [Con.enc] at g1
    simp only [g1, vv, reduceCtorEq, Nat.reduceAdd, Nat.reduceEqDiff, h1, bne_iff_ne, ne_eq, not_false_eq_true, startF, ret3, errF, zeroS, Snd.enc, List.map_nil, List.cons_append, List.nil_append]
def missL (s : Snd) : List Span := if chkS s = 0 then leftS s else []
def missE (s : Snd) : Int := if chkS s = 0 then 0 else 1
theorem s25 (s : Snd) : Runs C 25 s.enc [.sl 2 ((missL s).map Span.enc), tI (missE s)] := by
  refine Runs.of (fun n => e25 n _ _ _ _ _ _ _ _ _ _ _ _ _ _ _) ?_
  refine ((s19 s).and (s54 s)).mono fun n g => ?_
  obtain ⟨g1, g2⟩ := g
  simp only [Snd.enc] at g1 g2
  by_cases h : chkS s = 0
  · simp only [g1, g2, h, vv, reduceCtorEq, Nat.reduceAdd, Nat.reduceEqDiff, bne_self_eq_false, missL, missE]
  · simp only [g1, g2, h, vv, reduceCtorEq, Nat.reduceAdd, Nat.reduceEqDiff, bne_iff_ne, ne_eq, not_false_eq_true, missL, missE, List.map_nil]
theorem s28 (s : Snd) (hk : s.acked.length ≤ 900) : Runs C 28 s.enc [.sl 2 ((missL s).map Span.enc), tI (missE s)] := by
  refine Runs.of (fun n => e28 n _ _ _ _ _ _ _ _ _ _ _ _ _ _ _) ?_
  refine ((s29 s hk).and (s45 s)).mono fun n g => ?_
  obtain ⟨g1, g2⟩ := g
  simp only [Snd.enc] at g1 g2
  by_cases h : chkS s = 0
  · simp only [g1, g2, h, vv, reduceCtorEq, Nat.reduceAdd, Nat.reduceEqDiff, bne_self_eq_false, missL, missE]
  · simp only [g1, g2, h, vv, reduceCtorEq, Nat.reduceAdd, Nat.reduceEqDiff, bne_iff_ne, ne_eq, not_false_eq_true, missL, missE, List.map_nil]
end Ab

set_option linter.unusedVariables false
set_option linter.unusedSimpArgs false
namespace Ab
open Go
def ackS (s : Snd) (x : Seg) : Snd := { s with acked := uni s.acked x.claims }
def repF (s : Snd) (t : Int) (x : Seg) : Snd × List Out :=
  if x.ser ≠ s.ser ∨ x.tot ≠ s.data.size then (s, []) else if complete (ackS s x) = true then ({ ackS s x with due := 0, st := 2 }, []) else sendF (ackS s x) t (batchS (ackS s x))
def hearF (s : Snd) (t : Int) (x : Seg) : Snd × List Out × Int :=
  if chkS s ≠ 0 ∨ chkG x ≠ 0 then errF 1 else if ¬ (s.busy ≤ t ∧ t ≤ 2199023255552) then errF 2
  else if s.st ≠ 1 ∨ x.ses ≠ s.ses ∨ x.kind = 1 then (s, [], 0) else if x.kind = 3 then (failS s, [], 0)
  else ((repF s t x).1, (repF s t x).2, 0)
def lastOf (l : List Seg) : List Seg := l.drop (l.length - 1)
def waitF (s : Snd) (t : Int) : Snd × List Out × Int :=
  if chkS s ≠ 0 then errF 1 else if s.st ≠ 1 then errF 19 else if ¬ (s.due ≤ t ∧ t ≤ 2199023255552) then errF 2
  else ((sendF s t (lastOf (batchS s))).1, (sendF s t (lastOf (batchS s))).2, 0)
theorem chkS_zero {s : Snd} (h : chkS s = 0) : chkF s = 0 ∧ fits s = true := by
  unfold chkS at h
  split at h
  · rename_i h1; exact absurd h h1
  · rename_i h1
    split at h
    · rename_i h2; exact ⟨by omega, h2⟩
    · cases h
theorem FOk.batch {s : Snd} (h : FOk s) (hc : complete s = false) : s.ser = 1099511627776 ∧ batchS s = [] ∨ s.ser < 1099511627776 ∧ Bat s.data s.ses (s.ser + 1) (batchS s) := by
  have := h.num
  by_cases hr : s.ser = 1099511627776
  · exact .inl ⟨hr, batch_max hr⟩
  · have hr : s.ser < 1099511627776 := by omega
    exact .inr ⟨hr, bat_form (h.bat hc hr)⟩
theorem FOk.batch_len {s : Snd} (h : FOk s) (hc : complete s = false) : (batchS s).length ≤ 65537 := by
  have := h.dat
  rcases h.batch hc with ⟨_, e⟩ | ⟨_, b⟩
  · rw [e]; simp
  · have := b.len
    omega
theorem lastOf_len (l : List Seg) : (lastOf l).length ≤ 1 := by
  unfold lastOf
  rw [List.length_drop]
  omega
theorem lastOf_concat (pre : List Seg) (x : Seg) : lastOf (pre ++ [x]) = [x] := by
  unfold lastOf
  simp
/-- A segment whose Check is OK, of few claims. -/
structure GOk (x : Seg) : Prop where
  g : chkG x = 0
  few : x.claims.length ≤ 100
theorem chkG_zero {x : Seg} (h : chkG x = 0) : (1 ≤ x.kind ∧ x.kind ≤ 3) ∧ SegNum x ∧ SegCon x := by
  unfold chkG at h
  split at h
  · cases h
  · rename_i h1
    split at h
    · cases h
    · rename_i h2
      split at h
      · cases h
      · rename_i h3
        exact ⟨Classical.not_not.1 h1, Classical.not_not.1 h2, Classical.not_not.1 h3⟩
theorem GOk.cl {x : Seg} (h : GOk x) (hk : x.kind = 2) : chkL x.claims = 0 ∧ Within x.claims x.tot := by
  have := (chkG_zero h.g).2.2.2.1 hk
  have k4 := this.2.2
  unfold inside at k4
  have k4 := of_decide_eq_true k4
  exact ⟨k4.1, (inside_iff k4.1).1 k4.2⟩
theorem uni_ok {a b : List Span} {n : Int} (ha : chkL a = 0) (hb : chkL b = 0) (wa : Within a n) (wb : Within b n) (hl : a.length + b.length ≤ 1000) (hn : n ≤ 65536) : chkL (uni a b) = 0 ∧ Within (uni a b) n ∧ ∀ t, memS t (uni a b) ↔ memS t a ∨ memS t b := by
  obtain ⟨k1, k2⟩ := uni_spec ((chkL_iff _).1 ha).2.1 ((chkL_iff _).1 hb).2.1
  have hw : Within (uni a b) n := mem_within k1 fun t m => by
    rcases (k2 t).1 m with m | m
    · exact within_mem wa m
    · exact within_mem wb m
  have := uni_len ha hb
  refine ⟨(chkL_iff _).2 ⟨by omega, k1, fun x hx => by have := hw x hx; omega⟩, hw, k2⟩
theorem ackS_ok {s : Snd} {x : Seg} (h : FOk s) (hs : s.acked.length ≤ 100) (g : GOk x) (hk : x.kind = 2) (ht : x.tot = s.data.size) : FOk (ackS s x) := by
  obtain ⟨k1, k2⟩ := g.cl hk
  rw [ht] at k2
  have hd := h.dat
  have := g.few
  obtain ⟨u1, u2, u3⟩ := uni_ok h.ack k1 h.win k2 (by omega) (by omega)
  refine ⟨?_, ?_⟩
  · obtain ⟨c1, c2, c3⟩ := chkF_zero h.f
    unfold chkF
    have a1 : RngS (ackS s x) := c2
    have a2 : AckS (ackS s x) := ⟨u1, (inside_iff u1).2 u2⟩
    have a0 : chkC (ackS s x).c = 0 := c1
    rw [if_neg (fun f => f a0), if_neg (fun f => f a1), if_neg (fun f => f a2)]
  · have := uni_len h.ack k1
    have e : (ackS s x).acked = uni s.acked x.claims := rfl
    rw [e]
    omega
theorem union_of {a b : List Span} (ha : chkL a = 0) (hb : chkL b = 0) (hl : a.length + b.length ≤ 1000) : unionL a b = uni a b ∧ unionE a b = 0 := by
  have := uni_len ha hb
  unfold unionL unionE
  simp [ha, hb, (show ¬ 1000 < (uni a b).length by omega)]
theorem s66 (s : Snd) (t : Int) (x : Seg) (h : FOk s) (hs : s.acked.length ≤ 100) (g : GOk x) (hk : x.kind = 2) (ht : s.busy ≤ t ∧ t ≤ 2199023255552) : Runs C 66 (s.enc ++ [tI t] ++ x.enc) (retS (repF s t x)) := by
  refine Runs.of (fun n => e66 n _ _ _ _ _ _ _ _ _ _ _ _ _ _ _ _ _ _ _ _ _ _ _ _) ?_
  obtain ⟨k1, k2⟩ := g.cl hk
  have hcl := g.few
  obtain ⟨u1, u2⟩ := union_of h.ack k1 (by omega)
  have t67 := s67 s.acked x.claims
  rw [unionP_eq, u1, u2] at t67
  have hrng := h.rng
  have hnum := h.num
  by_cases q1 : x.ser = s.ser
  · by_cases q2 : x.tot = s.data.size
    · have hA := ackS_ok h hs g hk q2
      by_cases q3 : complete (ackS s x) = true
      · refine (t67.and (s47 (ackS s x) (by have := hA.few; omega))).mono fun n y => ?_
        obtain ⟨y1, y2⟩ := y
        simp only [Snd.enc, ackS] at y2
        have r : repF s t x = ({ ackS s x with due := 0, st := 2 }, []) := by unfold repF; rw [if_neg (by omega), if_pos q3]
        rw [r]
        unfold ackS at q3
        simp only [y1, y2, vv, reduceCtorEq, Nat.reduceAdd, Nat.reduceEqDiff, q1, q2, q3, bne_self_eq_false, J66_1, retS, ackS, Snd.enc, List.map_nil, List.cons_append, List.nil_append]
      · have q3' : complete (ackS s x) = false := by simpa using q3
        have hbl := hA.batch_len q3'
        refine (t67.and ((s47 (ackS s x) (by have := hA.few; omega)).and ((s37 (ackS s x) (by have := hA.num; omega)).and (s36 (ackS s x) t (batchS (ackS s x)) (by omega) (by omega) (by simp only [ackS]; omega))))).mono fun n y => ?_
        obtain ⟨y1, y2, y3, y4⟩ := y
        have r : repF s t x = sendF (ackS s x) t (batchS (ackS s x)) := by unfold repF; rw [if_neg (by omega), if_neg q3]
        rw [r]
        rw [q3'] at y2
        generalize sendF (ackS s x) t (batchS (ackS s x)) = p at y4
        obtain ⟨p, o⟩ := p
        generalize batchS (ackS s x) = bb at y3 y4
        simp only [Snd.enc, ackS, retS, List.cons_append, List.nil_append] at y2 y3 y4
        simp only [y1, y2, y3, y4, vv, reduceCtorEq, Nat.reduceAdd, Nat.reduceEqDiff, q1, q2, bne_self_eq_false, J66_1, retS, Snd.enc, List.cons_append, List.nil_append]
    · refine t67.mono fun n y1 => ?_
      have r : repF s t x = (s, []) := by unfold repF; rw [if_pos (by omega)]
      rw [r]
      simp only [y1, vv, reduceCtorEq, Nat.reduceAdd, Nat.reduceEqDiff, q1, q2, bne_self_eq_false, bne_iff_ne, ne_eq, not_false_eq_true, J66_1, retS, Snd.enc, List.map_nil, List.cons_append, List.nil_append]
  · refine t67.mono fun n y1 => ?_
    have r : repF s t x = (s, []) := by unfold repF; rw [if_pos (by omega)]
    rw [r]
    simp only [y1, vv, reduceCtorEq, Nat.reduceAdd, Nat.reduceEqDiff, q1, bne_iff_ne, ne_eq, not_false_eq_true, J66_1, retS, Snd.enc, List.map_nil, List.cons_append, List.nil_append]
theorem s68 (s : Snd) (t : Int) (x : Seg) : Runs C 68 (s.enc ++ [tI t] ++ x.enc) (retS (failS s, [])) := by
  refine Runs.of (fun n => e68 n _ _ _ _ _ _ _ _ _ _ _ _ _ _ _ _ _ _ _ _ _ _ _ _) ?_
  refine (s62 s).mono fun n y => ?_
  simp only [Snd.enc] at y
  simp only [y, vv, reduceCtorEq, Nat.reduceAdd, Nat.reduceEqDiff, retS, failS, Snd.enc, List.map_nil, List.cons_append, List.nil_append]
theorem fok_of {s : Snd} (h : chkS s = 0) (hs : s.acked.length ≤ 100) : FOk s := ⟨(chkS_zero h).1, by omega⟩
theorem gok_of {x : Seg} (h : chkG x = 0) (hx : x.claims.length ≤ 100 ∨ 1000 < x.claims.length) : GOk x := by
  refine ⟨h, ?_⟩
  obtain ⟨k1, k2, k3⟩ := chkG_zero h
  have hkk : x.kind = 1 ∨ x.kind = 2 ∨ x.kind = 3 := by omega
  rcases hkk with hk | hk | hk
  · rw [(k3.2.2 hk).2.2]; simp
  · have := (k3.2.1 hk).2.2
    unfold inside at this
    have := chkL_len (of_decide_eq_true this).1
    omega
  · rw [(k3.1 hk).2.2]; simp
theorem s17 (s : Snd) (t : Int) (x : Seg) (hs : s.acked.length ≤ 100) (hx : x.claims.length ≤ 100 ∨ 1000 < x.claims.length) : Runs C 17 (s.enc ++ [tI t] ++ x.enc) (ret3 (hearF s t x)) := by
  refine Runs.of (fun n => e17 n _ _ _ _ _ _ _ _ _ _ _ _ _ _ _ _ _ _ _ _ _ _ _ _) ?_
  by_cases h1 : chkS s = 0
  · by_cases h2 : chkG x = 0
    · have hF := fok_of h1 hs
      have hG := gok_of h2 hx
      have hk := (chkG_zero h2).1
      have hb : Ev fun n => apure C n 19 s.enc = some [tI 0] ∧ apure C n 20 x.enc = some [tI 0] ∧ apure C n 35 [tI t, tI s.busy, tI 2199023255552] = some [.bool (wi t s.busy 2199023255552)] := by
        have a := s19 s
        have b := s20 x
        rw [h1] at a
        rw [h2] at b
        exact a.and (b.and (s35 t s.busy 2199023255552))
      by_cases h3 : s.busy ≤ t ∧ t ≤ 2199023255552
      · by_cases h4 : s.st = 1
        · by_cases h5 : x.ses = s.ses
          · by_cases k1 : x.kind = 1
            · refine hb.mono fun n g => ?_
              obtain ⟨g1, g2, g3⟩ := g
              simp only [Snd.enc, Seg.enc, wi] at g1 g2 g3
              rw [k1] at g2
              have r : hearF s t x = (s, [], 0) := by unfold hearF; rw [if_neg (by omega), if_neg (by omega), if_pos (.inr (.inr k1))]
              rw [r]
              simp only [k1, g1, g2, g3, vv, reduceCtorEq, Nat.reduceAdd, Nat.reduceEqDiff, J17_3, bne_self_eq_false, h3, Int.reduceEq, ret3, Snd.enc, List.map_nil, List.cons_append, List.nil_append]
            · by_cases k3 : x.kind = 3
              · refine (hb.and (s68 s t x)).mono fun n g => ?_
                obtain ⟨⟨g1, g2, g3⟩, g4⟩ := g
                simp only [Snd.enc, Seg.enc, wi, retS, failS, List.map_nil, List.cons_append, List.nil_append] at g1 g2 g3 g4
                rw [k3] at g2 g4
                have r : hearF s t x = (failS s, [], 0) := by unfold hearF; rw [if_neg (by omega), if_neg (by omega), if_neg (by omega), if_pos k3]
                rw [r]
                simp only [k3, h4, h5] at g1 g2 g3 g4 ⊢
                simp only [k3, g1, g2, g3, g4, vv, reduceCtorEq, Nat.reduceAdd, Nat.reduceEqDiff, J17_3, J17_2, bne_self_eq_false, h3, h4, h5, Int.reduceEq, ret3, failS, Snd.enc, List.map_nil, List.cons_append, List.nil_append]
              · have k2 : x.kind = 2 := by omega
                refine (hb.and (s66 s t x hF hs hG k2 h3)).mono fun n g => ?_
                obtain ⟨⟨g1, g2, g3⟩, g4⟩ := g
                have r : hearF s t x = ((repF s t x).1, (repF s t x).2, 0) := by unfold hearF; rw [if_neg (by omega), if_neg (by omega), if_neg (by omega), if_neg k3]
                rw [r]
                generalize repF s t x = p at g4
                obtain ⟨p, o⟩ := p
                simp only [Snd.enc, Seg.enc, wi, retS, List.cons_append, List.nil_append] at g1 g2 g3 g4
                simp only [k2, h4, h5] at g1 g2 g3 g4 ⊢
                simp only [k2, g1, g2, g3, g4, vv, reduceCtorEq, Nat.reduceAdd, Nat.reduceEqDiff, J17_3, J17_1, bne_self_eq_false, h3, h4, h5, Int.reduceEq, ret3, Snd.enc, List.cons_append, List.nil_append]
          · refine hb.mono fun n g => ?_
            obtain ⟨g1, g2, g3⟩ := g
            simp only [Snd.enc, Seg.enc, wi, h4] at g1 g2 g3
            have r : hearF s t x = (s, [], 0) := by unfold hearF; rw [if_neg (by omega), if_neg (by omega), if_pos (.inr (.inl h5))]
            rw [r]
            have hkk : x.kind = 1 ∨ x.kind = 2 ∨ x.kind = 3 := by omega
            rcases hkk with k | k | k <;> rw [k] at g2 <;> simp only [k, g1, g2, g3, vv, reduceCtorEq, Nat.reduceAdd, Nat.reduceEqDiff, J17_3, J17_2, J17_1, bne_self_eq_false, h3, h4, h5, bne_iff_ne, ne_eq, not_false_eq_true, not_true_eq_false, Int.reduceEq, ret3, Snd.enc, List.map_nil, List.cons_append, List.nil_append]
        · refine hb.mono fun n g => ?_
          obtain ⟨g1, g2, g3⟩ := g
          simp only [Snd.enc, Seg.enc, wi] at g1 g2 g3
          have r : hearF s t x = (s, [], 0) := by unfold hearF; rw [if_neg (by omega), if_neg (by omega), if_pos (.inl h4)]
          rw [r]
          have hkk : x.kind = 1 ∨ x.kind = 2 ∨ x.kind = 3 := by omega
          rcases hkk with k | k | k <;> rw [k] at g2 <;> simp only [k, g1, g2, g3, vv, reduceCtorEq, Nat.reduceAdd, Nat.reduceEqDiff, J17_3, J17_2, J17_1, bne_self_eq_false, h3, h4, bne_iff_ne, ne_eq, not_false_eq_true, not_true_eq_false, Int.reduceEq, ret3, Snd.enc, List.map_nil, List.cons_append, List.nil_append]
      · refine hb.mono fun n g => ?_
        obtain ⟨g1, g2, g3⟩ := g
        simp only [Snd.enc, Seg.enc, wi] at g1 g2 g3
        have r : hearF s t x = errF 2 := by unfold hearF; rw [if_neg (by omega), if_pos h3]
        rw [r]
        simp only [g1, g2, g3, vv, reduceCtorEq, Nat.reduceAdd, Nat.reduceEqDiff, J17_3, bne_self_eq_false, h3, ret3, errF, zeroS, Snd.enc, List.map_nil, List.cons_append, List.nil_append]
    · have r : hearF s t x = errF 1 := by unfold hearF; rw [if_pos (.inr h2)]
      refine ((s19 s).and (s20 x)).mono fun n g => ?_
      obtain ⟨g1, g2⟩ := g
      rw [h1] at g1
      simp only [Snd.enc, Seg.enc] at g1 g2
      rw [r]
      simp only [g1, g2, vv, reduceCtorEq, Nat.reduceAdd, Nat.reduceEqDiff, J17_3, bne_self_eq_false, bne_iff_ne, ne_eq, not_false_eq_true, not_true_eq_false, h2, ret3, errF, zeroS, Snd.enc, List.map_nil, List.cons_append, List.nil_append]
  · have r : hearF s t x = errF 1 := by unfold hearF; rw [if_pos (.inl h1)]
    refine (s19 s).mono fun n g1 => ?_
    simp only [Snd.enc] at g1
    rw [r]
    simp only [g1, vv, reduceCtorEq, Nat.reduceAdd, Nat.reduceEqDiff, J17_3, bne_iff_ne, ne_eq, not_false_eq_true, h1, ret3, errF, zeroS, Snd.enc, List.map_nil, List.cons_append, List.nil_append]
end Ab

set_option linter.unusedVariables false
set_option linter.unusedSimpArgs false
namespace Ab
open Go
theorem s18 (s : Snd) (t : Int) (x : Seg) (hs : s.acked.length ≤ 100) (hx : x.claims.length ≤ 100 ∨ 1000 < x.claims.length) : Runs C 18 (s.enc ++ [tI t] ++ x.enc) (ret3 (hearF s t x)) := by
  refine Runs.of (fun n => e18 n _ _ _ _ _ _ _ _ _ _ _ _ _ _ _ _ _ _ _ _ _ _ _ _) ?_
  by_cases h1 : chkS s = 0
  · by_cases h2 : chkG x = 0
    · have hF := fok_of h1 hs
      have hG := gok_of h2 hx
      have hk := (chkG_zero h2).1
      have hnum := hF.num
      have hrng := hF.rng
      have hb : Ev fun n => apure C n 29 s.enc = some [tI 0] ∧ apure C n 43 x.enc = some [tI 0] := by
        have a := s29 s hF.few
        have b := s43 x
        rw [h1] at a
        rw [h2] at b
        exact a.and b
      by_cases h3 : s.busy ≤ t ∧ t ≤ 2199023255552
      · have w1 : ¬ t < s.busy := by omega
        have w2 : ¬ 2199023255552 < t := by omega
        by_cases h4 : s.st = 1
        · by_cases h5 : x.ses = s.ses
          · by_cases k3 : x.kind = 3
            · refine hb.mono fun n g => ?_
              obtain ⟨g1, g2⟩ := g
              have r : hearF s t x = (failS s, [], 0) := by unfold hearF; rw [if_neg (by omega), if_neg (by omega), if_neg (by omega), if_pos k3]
              rw [r]
              simp only [Snd.enc, Seg.enc] at g1 g2
              simp only [h4, h5, k3] at g1 g2 ⊢
              simp only [g1, g2, vv, reduceCtorEq, Nat.reduceAdd, Nat.reduceEqDiff, J18_4, J18_3, J18_2, bne_self_eq_false, w1, w2, beq_self_eq_true, ret3, failS, Snd.enc, List.map_nil, List.cons_append, List.nil_append]
            · by_cases k2 : x.kind = 2
              · obtain ⟨k1, kw⟩ := hG.cl k2
                have hcl := hG.few
                obtain ⟨u1, u2⟩ := union_of hF.ack k1 (by omega)
                have t44 := s44 s.acked x.claims
                rw [unionP_eq, u1, u2] at t44
                have r : hearF s t x = ((repF s t x).1, (repF s t x).2, 0) := by unfold hearF; rw [if_neg (by omega), if_neg (by omega), if_neg (by omega), if_neg k3]
                rw [r]
                by_cases q1 : x.ser = s.ser
                · by_cases q2 : x.tot = s.data.size
                  · have hA := ackS_ok hF hs hG k2 q2
                    by_cases q3 : complete (ackS s x) = true
                    · refine (hb.and (t44.and (s45 (ackS s x)))).mono fun n g => ?_
                      obtain ⟨⟨g1, g2⟩, g3, g4⟩ := g
                      have r : repF s t x = ({ ackS s x with due := 0, st := 2 }, []) := by unfold repF; rw [if_neg (by omega), if_pos q3]
                      rw [r]
                      rw [hA.left_nil.2 q3] at g4
                      simp only [Snd.enc, Seg.enc, ackS, List.map_nil] at g1 g2 g4
                      simp only [h4, h5, k2, q1, q2] at g1 g2 g3 g4 ⊢
                      simp only [g1, g2, g3, g4, vv, reduceCtorEq, Nat.reduceAdd, Nat.reduceEqDiff, J18_4, J18_3, J18_2, J18_1, bne_self_eq_false, w1, w2, Int.reduceBEq, ret3, ackS, Snd.enc, List.map_nil, List.cons_append, List.nil_append, nc0, beq_self_eq_true]
                    · have q3' : complete (ackS s x) = false := by simpa using q3
                      have hne : ¬ ((leftS (ackS s x)).length : Int) = 0 := by
                        intro e
                        refine q3 (hA.left_nil.1 (List.eq_nil_of_length_eq_zero (by omega)))
                      have r : repF s t x = sendF (ackS s x) t (batchS (ackS s x)) := by unfold repF; rw [if_neg (by omega), if_neg q3]
                      rw [r]
                      rcases hA.batch q3' with ⟨b1, b2⟩ | ⟨b1, b2⟩
                      · refine (hb.and (t44.and (s45 (ackS s x)))).mono fun n g => ?_
                        obtain ⟨⟨g1, g2⟩, g3, g4⟩ := g
                        have b1 : s.ser = 1099511627776 := b1
                        have r : sendF (ackS s x) t (batchS (ackS s x)) = (failS (ackS s x), []) := by rw [b2]; rfl
                        rw [r]
                        generalize leftS (ackS s x) = ll at g4 hne
                        simp only [Snd.enc, Seg.enc, ackS] at g1 g2 g4
                        simp only [h4, h5, k2, q1, q2] at g1 g2 g3 g4 ⊢
                        rw [b1] at g1 g2 g4
                        simp only [b1, g1, g2, g3, g4, vv, reduceCtorEq, Nat.reduceAdd, Nat.reduceEqDiff, J18_4, J18_3, J18_2, J18_1, bne_self_eq_false, w1, w2, Int.reduceBEq, beq_iff_eq, hne, ret3, failS, ackS, Snd.enc, List.map_nil, List.cons_append, List.nil_append]
                      · have b1 : s.ser < 1099511627776 := b1
                        obtain ⟨z, hz, hzs, hzn⟩ := b2.last
                        have hl := b2.len2 hA.dat.2
                        have t39 := s39 s.ses (s.ser + 1) s.data (leftS (ackS s x))
                        have e0 : batE s.ses (s.ser + 1) s.data (leftS (ackS s x)) = 0 := hA.bat q3' b1
                        rw [e0] at t39
                        have t39 : Runs C 39 [tI s.ses, tI (s.ser + 1), .str s.data, .sl 2 ((leftS (ackS s x)).map Span.enc)] [.sl 8 ((batchS (ackS s x)).map Seg.enc), tI 0] := t39
                        have t40 := s40 (ackS s x) (batchS (ackS s x)) t hzn hl (by omega) (by simp only [ackS]; omega)
                        rw [trans_send hz (by simp only [ackS] at hzs; omega)] at t40
                        refine (hb.and (t44.and ((s45 (ackS s x)).and (t39.and t40)))).mono fun n g => ?_
                        obtain ⟨⟨g1, g2⟩, g3, g4, g5, g6⟩ := g
                        generalize sendF (ackS s x) t (batchS (ackS s x)) = p at g6
                        obtain ⟨p, o⟩ := p
                        generalize batchS (ackS s x) = bb at g5 g6
                        generalize leftS (ackS s x) = ll at g4 g5 hne
                        have nn : ¬ s.ser = 1099511627776 := by omega
                        simp only [Snd.enc, Seg.enc, ackS, retS, List.cons_append, List.nil_append] at g1 g2 g4 g6
                        simp only [h4, h5, k2, q1, q2] at g1 g2 g3 g4 g5 g6 ⊢
                        simp only [g1, g2, g3, g4, g5, g6, vv, reduceCtorEq, Nat.reduceAdd, Nat.reduceEqDiff, J18_4, J18_3, J18_2, J18_1, bne_self_eq_false, w1, w2, Int.reduceBEq, beq_iff_eq, hne, nn, w64_id (x := s.ser + 1) (by omega) (by omega), ret3, Snd.enc, List.cons_append, List.nil_append]
                  · refine hb.mono fun n g => ?_
                    obtain ⟨g1, g2⟩ := g
                    have r : repF s t x = (s, []) := by unfold repF; rw [if_pos (by omega)]
                    rw [r]
                    simp only [Snd.enc, Seg.enc] at g1 g2
                    simp only [h4, h5, k2, q1] at g1 g2 ⊢
                    simp only [g1, g2, vv, reduceCtorEq, Nat.reduceAdd, Nat.reduceEqDiff, J18_4, J18_3, J18_2, J18_1, bne_self_eq_false, w1, w2, Int.reduceBEq, bne_iff_ne, ne_eq, q2, not_false_eq_true, not_true_eq_false, h4, ret3, Snd.enc, List.map_nil, List.cons_append, List.nil_append]
                · refine hb.mono fun n g => ?_
                  obtain ⟨g1, g2⟩ := g
                  have r : repF s t x = (s, []) := by unfold repF; rw [if_pos (by omega)]
                  rw [r]
                  simp only [Snd.enc, Seg.enc] at g1 g2
                  simp only [h4, h5, k2] at g1 g2 ⊢
                  simp only [g1, g2, vv, reduceCtorEq, Nat.reduceAdd, Nat.reduceEqDiff, J18_4, J18_3, J18_2, J18_1, bne_self_eq_false, w1, w2, Int.reduceBEq, bne_iff_ne, ne_eq, q1, not_false_eq_true, not_true_eq_false, h4, ret3, Snd.enc, List.map_nil, List.cons_append, List.nil_append]
              · have k1 : x.kind = 1 := by omega
                refine hb.mono fun n g => ?_
                obtain ⟨g1, g2⟩ := g
                have r : hearF s t x = (s, [], 0) := by unfold hearF; rw [if_neg (by omega), if_neg (by omega), if_pos (.inr (.inr k1))]
                rw [r]
                simp only [Snd.enc, Seg.enc] at g1 g2
                simp only [h4, h5, k1] at g1 g2 ⊢
                simp only [g1, g2, vv, reduceCtorEq, Nat.reduceAdd, Nat.reduceEqDiff, J18_4, J18_3, J18_2, J18_1, bne_self_eq_false, w1, w2, Int.reduceBEq, Int.reduceBNe, h4, ret3, Snd.enc, List.map_nil, List.cons_append, List.nil_append]
          · refine hb.mono fun n g => ?_
            obtain ⟨g1, g2⟩ := g
            have r : hearF s t x = (s, [], 0) := by unfold hearF; rw [if_neg (by omega), if_neg (by omega), if_pos (.inr (.inl h5))]
            rw [r]
            simp only [Snd.enc, Seg.enc] at g1 g2
            simp only [h4] at g1 g2 ⊢
            simp only [g1, g2, vv, reduceCtorEq, Nat.reduceAdd, Nat.reduceEqDiff, J18_4, J18_3, J18_2, bne_self_eq_false, w1, w2, bne_iff_ne, ne_eq, h5, not_false_eq_true, not_true_eq_false, h4, ret3, Snd.enc, List.map_nil, List.cons_append, List.nil_append]
        · refine hb.mono fun n g => ?_
          obtain ⟨g1, g2⟩ := g
          have r : hearF s t x = (s, [], 0) := by unfold hearF; rw [if_neg (by omega), if_neg (by omega), if_pos (.inl h4)]
          rw [r]
          simp only [Snd.enc, Seg.enc] at g1 g2
          simp only [g1, g2, vv, reduceCtorEq, Nat.reduceAdd, Nat.reduceEqDiff, J18_4, J18_3, J18_2, bne_self_eq_false, w1, w2, bne_iff_ne, ne_eq, h4, not_false_eq_true, not_true_eq_false, ret3, Snd.enc, List.map_nil, List.cons_append, List.nil_append]
      · refine hb.mono fun n g => ?_
        obtain ⟨g1, g2⟩ := g
        simp only [Snd.enc, Seg.enc] at g1 g2
        have r : hearF s t x = errF 2 := by unfold hearF; rw [if_neg (by omega), if_pos h3]
        rw [r]
        by_cases w1 : t < s.busy
        · simp only [g1, g2, vv, reduceCtorEq, Nat.reduceAdd, Nat.reduceEqDiff, J18_4, J18_3, bne_self_eq_false, w1, ret3, errF, zeroS, Snd.enc, List.map_nil, List.cons_append, List.nil_append]
        · have w2 : 2199023255552 < t := by omega
          simp only [g1, g2, vv, reduceCtorEq, Nat.reduceAdd, Nat.reduceEqDiff, J18_4, J18_3, bne_self_eq_false, w1, w2, ret3, errF, zeroS, Snd.enc, List.map_nil, List.cons_append, List.nil_append]
    · have r : hearF s t x = errF 1 := by unfold hearF; rw [if_pos (.inr h2)]
      refine ((s29 s (by omega)).and (s43 x)).mono fun n g => ?_
      obtain ⟨g1, g2⟩ := g
      rw [h1] at g1
      simp only [Snd.enc, Seg.enc] at g1 g2
      rw [r]
      simp only [g1, g2, vv, reduceCtorEq, Nat.reduceAdd, Nat.reduceEqDiff, J18_4, bne_self_eq_false, bne_iff_ne, ne_eq, not_false_eq_true, not_true_eq_false, h2, ret3, errF, zeroS, Snd.enc, List.map_nil, List.cons_append, List.nil_append]
  · have r : hearF s t x = errF 1 := by unfold hearF; rw [if_pos (.inl h1)]
    refine (s29 s (by omega)).mono fun n g1 => ?_
    simp only [Snd.enc] at g1
    rw [r]
    simp only [g1, vv, reduceCtorEq, Nat.reduceAdd, Nat.reduceEqDiff, J18_4, bne_iff_ne, ne_eq, not_false_eq_true, h1, ret3, errF, zeroS, Snd.enc, List.map_nil, List.cons_append, List.nil_append]
theorem drop_last_map (l : List Seg) : List.map Seg.enc (lastOf l) = List.drop (l.length - 1) (List.map Seg.enc l) := by
  unfold lastOf
  rw [List.map_drop]
theorem fits_wait {s : Snd} (h : chkS s = 0) (h4 : s.st = 1) : complete s = false ∧ s.due = s.busy + 2 * s.c.rng + 1 := by
  have := (chkS_zero h).2
  unfold fits at this
  have := of_decide_eq_true this
  have e : dueS s = s.busy + 2 * s.c.rng + 1 := rfl
  rcases this with k | k | k
  · exact ⟨k.2.1, by rw [k.2.2, e]⟩
  · omega
  · omega
theorem s26 (s : Snd) (t : Int) (hs : s.acked.length ≤ 100) : Runs C 26 (s.enc ++ [tI t]) (ret3 (waitF s t)) := by
  refine Runs.of (fun n => e26 n _ _ _ _ _ _ _ _ _ _ _ _ _ _ _ _) ?_
  by_cases h1 : chkS s = 0
  · have hF := fok_of h1 hs
    have hnum := hF.num
    have hrng := hF.rng
    by_cases h4 : s.st = 1
    · obtain ⟨hc, hd⟩ := fits_wait h1 h4
      by_cases h3 : s.due ≤ t ∧ t ≤ 2199023255552
      · have hl := hF.batch_len hc
        refine ((s19 s).and ((s35 t s.due 2199023255552).and ((s37 s (by omega)).and (s36 s t (lastOf (batchS s)) (by have := lastOf_len (batchS s); omega) (by omega) (by omega))))).mono fun n g => ?_
        obtain ⟨g1, g2, g3, g4⟩ := g
        have r : waitF s t = ((sendF s t (lastOf (batchS s))).1, (sendF s t (lastOf (batchS s))).2, 0) := by unfold waitF; rw [if_neg (by omega), if_neg (by omega), if_neg (by omega)]
        rw [r]
        rw [drop_last_map] at g4
        generalize sendF s t (lastOf (batchS s)) = p at g4
        obtain ⟨p, o⟩ := p
        rw [h1] at g1
        generalize batchS s = bb at g3 g4 hl
        simp only [Snd.enc, wi, retS, List.cons_append, List.nil_append] at g1 g2 g3 g4
        simp only [h4] at g1 g3 g4 ⊢
        have e1 : (if w64 ((bb.length : Int) - 1) > 0 then w64 ((bb.length : Int) - 1) else 0) = ((bb.length - 1 : Nat) : Int) := by
          rw [w64_id (by omega) (by omega)]
          split <;> omega
        have e2 : List.take bb.length (List.map Seg.enc bb) = List.map Seg.enc bb := List.take_of_length_le (by simp)
        simp only [gt_iff_lt] at e1
        simp only [g1, g2, g3, vv, reduceCtorEq, Nat.reduceAdd, Nat.reduceEqDiff, bne_self_eq_false, h3, e1, e2, g4, (show ((bb.length - 1 : Nat) : Int) ≤ (bb.length : Int) by omega), ret3, Snd.enc, List.cons_append, List.nil_append]
      · refine ((s19 s).and (s35 t s.due 2199023255552)).mono fun n g => ?_
        obtain ⟨g1, g2⟩ := g
        have r : waitF s t = errF 2 := by unfold waitF; rw [if_neg (by omega), if_neg (by omega), if_pos h3]
        rw [r]
        rw [h1] at g1
        simp only [Snd.enc, wi] at g1 g2
        simp only [h4] at g1 ⊢
        simp only [g1, g2, vv, reduceCtorEq, Nat.reduceAdd, Nat.reduceEqDiff, bne_self_eq_false, h3, ret3, errF, zeroS, Snd.enc, List.map_nil, List.cons_append, List.nil_append]
    · refine (s19 s).mono fun n g1 => ?_
      have r : waitF s t = errF 19 := by unfold waitF; rw [if_neg (by omega), if_pos h4]
      rw [r]
      rw [h1] at g1
      simp only [Snd.enc] at g1
      simp only [g1, vv, reduceCtorEq, Nat.reduceAdd, Nat.reduceEqDiff, bne_self_eq_false, bne_iff_ne, ne_eq, not_false_eq_true, not_true_eq_false, h4, ret3, errF, zeroS, Snd.enc, List.map_nil, List.cons_append, List.nil_append]
  · have r : waitF s t = errF 1 := by unfold waitF; rw [if_pos h1]
    refine (s19 s).mono fun n g1 => ?_
    simp only [Snd.enc] at g1
    rw [r]
    simp only [g1, vv, reduceCtorEq, Nat.reduceAdd, Nat.reduceEqDiff, bne_iff_ne, ne_eq, not_false_eq_true, h1, ret3, errF, zeroS, Snd.enc, List.map_nil, List.cons_append, List.nil_append]
theorem s27 (s : Snd) (t : Int) (hs : s.acked.length ≤ 100) : Runs C 27 (s.enc ++ [tI t]) (ret3 (waitF s t)) := by
  refine Runs.of (fun n => e27 n _ _ _ _ _ _ _ _ _ _ _ _ _ _ _ _) ?_
  by_cases h1 : chkS s = 0
  · have hF := fok_of h1 hs
    have hnum := hF.num
    have hrng := hF.rng
    by_cases h4 : s.st = 1
    · obtain ⟨hc, hd⟩ := fits_wait h1 h4
      by_cases h3 : s.due ≤ t ∧ t ≤ 2199023255552
      · have w1 : ¬ t < s.due := by omega
        have w2 : ¬ 2199023255552 < t := by omega
        have r : waitF s t = ((sendF s t (lastOf (batchS s))).1, (sendF s t (lastOf (batchS s))).2, 0) := by unfold waitF; rw [if_neg (by omega), if_neg (by omega), if_neg (by omega)]
        rw [r]
        rcases hF.batch hc with ⟨b1, b2⟩ | ⟨b1, b2⟩
        · refine (s29 s hF.few).mono fun n g1 => ?_
          have r : sendF s t (lastOf (batchS s)) = (failS s, []) := by rw [b2]; rfl
          rw [r]
          rw [h1] at g1
          simp only [Snd.enc] at g1
          simp only [h4, b1] at g1 ⊢
          simp only [b1, g1, vv, reduceCtorEq, Nat.reduceAdd, Nat.reduceEqDiff, bne_self_eq_false, w1, w2, J27_1, beq_self_eq_true, ret3, failS, Snd.enc, List.map_nil, List.cons_append, List.nil_append]
        · have hl := b2.len2 hF.dat.2
          obtain ⟨pre, z, hz, _⟩ := b2.ex
          have t39 := s39 s.ses (s.ser + 1) s.data (leftS s)
          have e0 : batE s.ses (s.ser + 1) s.data (leftS s) = 0 := hF.bat hc b1
          rw [e0] at t39
          have t39 : Runs C 39 [tI s.ses, tI (s.ser + 1), .str s.data, .sl 2 ((leftS s).map Span.enc)] [.sl 8 ((batchS s).map Seg.enc), tI 0] := t39
          have hlo : lastOf (batchS s) = [{ z with ser := s.ser + 1, chk := true }] := by rw [hz, lastOf_concat]
          have t40 := s40 s (lastOf (batchS s)) t (by rw [hlo]; simp) (by have := lastOf_len (batchS s); omega) (by omega) (by omega)
          rw [trans_send (x := { z with ser := s.ser + 1, chk := true }) (by rw [hlo]; rfl) (by simp only; omega), drop_last_map] at t40
          have hp : 1 ≤ (batchS s).length := by rw [hz]; simp
          refine ((s29 s hF.few).and ((s45 s).and (t39.and t40))).mono fun n g => ?_
          obtain ⟨g1, g2, g3, g4⟩ := g
          generalize sendF s t (lastOf (batchS s)) = p at g4
          obtain ⟨p, o⟩ := p
          rw [h1] at g1
          generalize batchS s = bb at g3 g4 hl hp
          have nn : ¬ s.ser = 1099511627776 := by omega
          simp only [Snd.enc, retS, List.cons_append, List.nil_append] at g1 g2 g3 g4
          simp only [h4] at g1 g2 g4 ⊢
          have e1 : w64 ((bb.length : Int) - 1) = ((bb.length - 1 : Nat) : Int) := by
            rw [w64_id (by omega) (by omega)]
            omega
          have e2 : List.take bb.length (List.map Seg.enc bb) = List.map Seg.enc bb := List.take_of_length_le (by simp)
          simp only [g1, vv, reduceCtorEq, Nat.reduceAdd, Nat.reduceEqDiff, bne_self_eq_false, w1, w2, J27_1, beq_iff_eq, nn, g2, w64_id (x := s.ser + 1) (by omega) (by omega), g3, e1, e2, g4, (show ((bb.length - 1 : Nat) : Int) ≤ (bb.length : Int) by omega), ret3, Snd.enc, List.cons_append, List.nil_append]
      · refine (s29 s hF.few).mono fun n g1 => ?_
        have r : waitF s t = errF 2 := by unfold waitF; rw [if_neg (by omega), if_neg (by omega), if_pos h3]
        rw [r]
        rw [h1] at g1
        simp only [Snd.enc] at g1
        simp only [h4] at g1 ⊢
        by_cases w1 : t < s.due
        · simp only [g1, vv, reduceCtorEq, Nat.reduceAdd, Nat.reduceEqDiff, bne_self_eq_false, w1, J27_1, ret3, errF, zeroS, Snd.enc, List.map_nil, List.cons_append, List.nil_append]
        · have w2 : 2199023255552 < t := by omega
          simp only [g1, vv, reduceCtorEq, Nat.reduceAdd, Nat.reduceEqDiff, bne_self_eq_false, w1, w2, J27_1, ret3, errF, zeroS, Snd.enc, List.map_nil, List.cons_append, List.nil_append]
    · refine (s29 s hF.few).mono fun n g1 => ?_
      have r : waitF s t = errF 19 := by unfold waitF; rw [if_neg (by omega), if_pos h4]
      rw [r]
      rw [h1] at g1
      simp only [Snd.enc] at g1
      simp only [g1, vv, reduceCtorEq, Nat.reduceAdd, Nat.reduceEqDiff, bne_self_eq_false, bne_iff_ne, ne_eq, not_false_eq_true, not_true_eq_false, h4, ret3, errF, zeroS, Snd.enc, List.map_nil, List.cons_append, List.nil_append]
  · have r : waitF s t = errF 1 := by unfold waitF; rw [if_pos h1]
    refine (s29 s (by omega)).mono fun n g1 => ?_
    simp only [Snd.enc] at g1
    rw [r]
    simp only [g1, vv, reduceCtorEq, Nat.reduceAdd, Nat.reduceEqDiff, bne_iff_ne, ne_eq, not_false_eq_true, h1, ret3, errF, zeroS, Snd.enc, List.map_nil, List.cons_append, List.nil_append]
end Ab
