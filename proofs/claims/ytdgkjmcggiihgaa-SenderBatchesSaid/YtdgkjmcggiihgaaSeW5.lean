/- Parts of the proof: see the last text. -/
import Derived.Test.YtdgkjmcggiihgaaSeT2
import Derived.Test.YtdgkjmcggiihgaaSeExt
set_option linter.unusedVariables false
set_option linter.unusedSimpArgs false
namespace Ab
open Go Go.Proofs
def D40 : ByteArray := ⟨(Go.Lib.repeatL [97] 40).toArray⟩
theorem d40_size : D40.size = 40 := by kernel_rfl
theorem s58 : Runs C 58 [.str (ByteArray.mk #[97]), tI 40] [.str D40] := Runs.of (g := fun _ => some [.str D40]) (fun n => by kernel_rfl) (Ev.of fun _ => rfl)
def C8 : Con := ⟨0, 1, 0, 100, 8, 5, 0⟩
theorem s33 : Runs C 33 [] (C8.enc ++ [.str D40]) := by
  refine Runs.of (fun n => e33 n) (s58.mono fun n h => ?_)
  simp only [h, vv, reduceCtorEq, Nat.reduceAdd, Nat.reduceEqDiff]
  rfl
theorem cut40 : cut 0 40 = [(0, 16), (16, 32), (32, 40)] := by
  rw [cut_pos (by omega), show cutE 0 40 = 16 by decide, cut_pos (by omega), show cutE 16 40 = 32 by decide, cut_pos (by omega), show cutE 32 40 = 40 by decide, cut_neg (by omega)]
theorem cut32 : cut 16 32 = [(16, 32)] := by
  rw [cut_pos (by omega), show cutE 16 32 = 32 by decide, cut_neg (by omega)]
def dp (i j : Int) : Seg := raw D40 7 (i, j)
def mk_ (n : Int) (x : Seg) : Seg := { x with ser := n, chk := true }
theorem bat40 : batL 7 1 D40 (wholeS D40) = [dp 0 16, dp 16 32, mk_ 1 (dp 32 40)] := by
  have h := start_bat (ses := 7) (d := D40) (by omega) (by rw [d40_size]; omega)
  unfold batL
  rw [if_pos h]
  have : raws D40 7 (wholeS D40) = [dp 0 16, dp 16 32] ++ [dp 32 40] := by
    unfold raws wholeS
    rw [d40_size]
    simp only [List.flatMap_cons, List.flatMap_nil, List.append_nil]
    rw [show ((40 : Nat) : Int) = 40 from rfl, cut40]
    rfl
  rw [this, mark_concat]
  rfl
theorem t1 : ticks 8 (dp 0 16) = 3 := by kernel_rfl
theorem t2 : ticks 8 (dp 16 32) = 3 := by kernel_rfl
theorem t3 : ticks 8 (mk_ 1 (dp 32 40)) = 2 := by kernel_rfl
theorem t4 : ticks 8 (mk_ 2 (dp 16 32)) = 3 := by kernel_rfl
def S40 : Snd := ⟨C8, 7, D40, 100, 8, 1, [], 19, 1⟩
theorem start40 : startF C8 7 D40 0 100 = (S40, [⟨3, dp 0 16⟩, ⟨6, dp 16 32⟩, ⟨8, mk_ 1 (dp 32 40)⟩], 0) := by
  have e : sendF (startS C8 7 D40 100) 0 (batL 7 1 D40 (wholeS D40)) = (S40, [⟨3, dp 0 16⟩, ⟨6, dp 16 32⟩, ⟨8, mk_ 1 (dp 32 40)⟩]) := by
    rw [bat40]
    unfold sendF
    simp only [List.getLast?_cons_cons, List.getLast?_singleton, startS]
    simp only [endAt, outsF, show C8.rate = 8 from rfl, t1, t2, t3]
    rfl
  unfold startF
  rw [e, if_neg (by decide), if_neg (by omega), if_neg (by rw [d40_size]; omega), if_neg (by rw [d40_size]; omega), if_neg (by decide), if_neg (by decide)]
def X40 : Seg := ⟨2, 7, 1, 0, 40, false, ByteArray.mk #[], [⟨0, 16⟩, ⟨32, 40⟩]⟩
theorem uni_nil {l : List Span} (h : chkL l = 0) : uni [] l = l := by
  obtain ⟨k1, k2⟩ := uni_spec ((chkL_iff _).1 chk_nil).2.1 ((chkL_iff _).1 h).2.1
  exact canon_unique k1 ((chkL_iff _).1 h).2.1 fun t => by rw [k2]; simp [memS]
def A40 : Snd := ⟨C8, 7, D40, 100, 8, 1, [⟨0, 16⟩, ⟨32, 40⟩], 19, 1⟩
theorem ack40 : ackS S40 X40 = A40 := by
  unfold ackS
  rw [show S40.acked = [] from rfl, uni_nil (by decide)]
  rfl
theorem left40 : leftS A40 = [⟨16, 32⟩] := by
  have hd : 1 ≤ A40.data.size ∧ A40.data.size ≤ 65536 := by rw [show A40.data = D40 from rfl, d40_size]; omega
  have hw : Within A40.acked A40.data.size := by
    rw [show A40.data = D40 from rfl, d40_size]
    intro x hx
    simp only [A40, List.mem_cons, List.not_mem_nil, or_false] at hx
    rcases hx with rfl | rfl <;> simp
  rw [left_eq hd (by decide) (by decide)]
  obtain ⟨k1, k2, k3⟩ := left_spec hd (a := A40.acked) (by decide) hw
  refine canon_unique k1 (b' := 0) ⟨by decide, by decide, trivial⟩ fun t => ?_
  rw [k3, show A40.data = D40 from rfl, d40_size]
  simp only [A40, memS, or_false]
  omega
theorem batch40 : batchS A40 = [mk_ 2 (dp 16 32)] := by
  have h : batE 7 2 D40 [⟨16, 32⟩] = 0 := batE_zero (by omega) (by omega) (by rw [d40_size]; omega) (by rw [d40_size]; decide) (by simp)
  have e : batchS A40 = batL 7 2 D40 [⟨16, 32⟩] := by
    unfold batchS
    rw [left40]
    rfl
  rw [e]
  unfold batL
  rw [if_pos h]
  have : raws D40 7 [⟨16, 32⟩] = [] ++ [dp 16 32] := by
    unfold raws
    simp only [List.flatMap_cons, List.flatMap_nil, List.append_nil, cut32]
    rfl
  rw [this, mark_concat]
  rfl
theorem hear40 : hearF S40 18 X40 = (sentS A40 21 2, [⟨21, mk_ 2 (dp 16 32)⟩], 0) := by
  have e : sendF A40 18 (batchS A40) = (sentS A40 21 2, [⟨21, mk_ 2 (dp 16 32)⟩]) := by
    rw [batch40]
    unfold sendF
    simp only [List.getLast?_singleton]
    simp only [endAt, outsF, show A40.c.rate = 8 from rfl, t4]
    rfl
  have r : repF S40 18 X40 = (sentS A40 21 2, [⟨21, mk_ 2 (dp 16 32)⟩]) := by
    unfold repF
    rw [ack40, if_neg (by decide), if_neg (by decide), e]
  unfold hearF
  rw [r, if_neg (by decide), if_neg (by decide), if_neg (by decide), if_neg (by decide)]
theorem s10 : Runs C 10 [] [.bool true] := by
  refine Runs.of (fun n => e10 n) ?_
  have a := s11 C8 7 D40 0 100
  rw [start40] at a
  have b := s17 S40 18 X40 (by decide) (.inl (by decide))
  rw [hear40] at b
  refine (s33.and (a.and b)).mono fun n h => ?_
  obtain ⟨h1, h2, h3⟩ := h
  simp only [C8, Con.enc, S40, X40, ret3, Snd.enc, Seg.enc, List.map_nil, List.map_cons, Span.enc, List.cons_append, List.nil_append, Out.enc] at h1 h2 h3
  simp only [h1, h2, vv, reduceCtorEq, Nat.reduceAdd, Nat.reduceEqDiff, J10_1, Int.reduceBNe, nc3, List.getElem?_cons_zero, List.getElem?_cons_succ, Int.reduceBEq, bne_self_eq_false, h3, beq_self_eq_true, nc1]
  simp [cnd_eq, sentS, mk_, dp, raw, vv, reduceCtorEq, Nat.reduceAdd, Nat.reduceEqDiff]
end Ab

set_option linter.unusedVariables false
set_option linter.unusedSimpArgs false
namespace Ab
open Go
theorem Bat.lastOf {d : ByteArray} {ses ser : Int} {l : List Seg} (h : Bat d ses ser l) : Bat d ses ser (lastOf l) := by
  obtain ⟨pre, x, rfl, h1, h2⟩ := h.ex
  rw [lastOf_concat]
  exact ⟨⟨[], x, rfl, h1, fun y hy => by cases hy⟩, by simp; omega⟩
theorem Bat.ne {d : ByteArray} {ses ser : Int} {l : List Seg} (h : Bat d ses ser l) : l ≠ [] := by
  obtain ⟨pre, x, rfl, h1, h2⟩ := h.ex
  simp
theorem Bat.claims {d : ByteArray} {ses ser : Int} {l : List Seg} (h : Bat d ses ser l) : ∀ x ∈ l, x.claims = [] := by
  obtain ⟨pre, x, rfl, h1, h2⟩ := h.ex
  intro y hy
  rcases List.mem_append.1 hy with hy | hy
  · exact (h2 y hy).cl
  · rw [List.mem_singleton] at hy
    subst hy
    exact h1.cl
theorem Bat.good {d : ByteArray} {ses ser : Int} {l : List Seg} (h : Bat d ses ser l) (hs : 0 ≤ ses ∧ ses ≤ 1099511627776) (hr : 1 ≤ ser ∧ ser ≤ 1099511627776) (hd : 1 ≤ d.size ∧ d.size ≤ 65536) {i : Nat} {y : Seg} (hy : l[i]? = some y) :
    chkG y = 0 ∧ y.ses = ses ∧ (y.chk = decide (i = l.length - 1)) ∧ (y.chk = true → y.ser = ser) := by
  obtain ⟨pre, x, rfl, h1, h2⟩ := h.ex
  have hi := lt_of_some hy
  simp only [List.length_append, List.length_cons, List.length_nil] at hi ⊢
  by_cases hp : i < pre.length
  · rw [List.getElem?_append_left hp] at hy
    have hm := h2 y (List.mem_of_getElem? hy)
    refine ⟨piece_ok hm hs hd, hm.ses_, ?_, fun hc => ?_⟩
    · rw [hm.chk]
      symm
      rw [decide_eq_false_iff_not]
      omega
    · rw [hm.chk] at hc
      cases hc
  · have e : i = pre.length := by omega
    subst e
    rw [List.getElem?_append_right (Nat.le_refl _)] at hy
    simp only [Nat.sub_self, List.getElem?_cons_zero, Option.some.injEq] at hy
    subst hy
    refine ⟨mark_ok h1 hs hr hd, h1.ses_, ?_, fun _ => rfl⟩
    simp
theorem outsF_get (r : Int) : ∀ (l : List Seg) (t : Int) (i : Nat) (y : Seg), l[i]? = some y → (outsF r t l)[i]? = some ⟨endAt r t (l.take i) + ticks r y, y⟩
  | [], t, i, y, h => by simp at h
  | x :: l, t, 0, y, h => by
    simp only [List.getElem?_cons_zero, Option.some.injEq] at h
    subst h
    rfl
  | x :: l, t, i + 1, y, h => by
    rw [List.getElem?_cons_succ] at h
    have := outsF_get r l (t + ticks r x) i y h
    simp only [outsF, List.getElem?_cons_succ, this, List.take_succ_cons, endAt]
theorem outsF_seg (r : Int) : ∀ (l : List Seg) (t : Int), (outsF r t l).map Out.seg = l
  | [], t => rfl
  | x :: l, t => by simp only [outsF, List.map_cons, outsF_seg r l]
def FewO (o : List Out) : Prop := o.length ≤ 1000000 ∧ ∀ x ∈ o, x.seg.claims.length ≤ 1000000
theorem few_nil : FewO [] := ⟨by simp, fun x hx => by cases hx⟩
theorem few_outs {d : ByteArray} {ses ser r t : Int} {l : List Seg} (h : Bat d ses ser l) (hd : d.size ≤ 65536) : FewO (outsF r t l) := by
  refine ⟨?_, fun x hx => ?_⟩
  · have := h.len
    rw [outsF_len]
    omega
  · have : x.seg ∈ l := by
      rw [← outsF_seg r l t]
      exact List.mem_map_of_mem hx
    rw [h.claims _ this]
    simp
theorem send_cases {s : Snd} {t ser : Int} {d : ByteArray} {l : List Seg} (h : l = [] ∨ Bat d s.ses ser l ∧ ser ≤ 1099511627776) :
    (sendF s t l = (failS s, []) ∧ (l = [] ∨ s.fin < endAt s.c.rate t l)) ∨ (Bat d s.ses ser l ∧ ser ≤ 1099511627776 ∧ endAt s.c.rate t l ≤ s.fin ∧ sendF s t l = (sentS s (endAt s.c.rate t l) ser, outsF s.c.rate t l)) := by
  rcases h with rfl | ⟨h, hs⟩
  · exact .inl ⟨rfl, .inl rfl⟩
  · obtain ⟨x, hx, hxs, hn⟩ := h.last
    by_cases hq : s.fin < endAt s.c.rate t l
    · refine .inl ⟨?_, .inr hq⟩
      unfold sendF
      rw [hx]
      simp [hq]
    · refine .inr ⟨h, hs, by omega, ?_⟩
      unfold sendF
      rw [hx]
      simp [hq, hxs, (show ¬ 1099511627776 < ser by omega)]
/-! ### validity -/
theorem chkS_of {s : Snd} (h : chkF s = 0) (hf : fits s = true) : chkS s = 0 := by
  unfold chkS
  rw [if_neg (fun f => f h), if_pos hf]
theorem fail_ok {s : Snd} (h : chkF s = 0) : chkS (failS s) = 0 := by
  refine chkS_of h ?_
  unfold fits failS
  simp
theorem sent_ok {s : Snd} {t ser : Int} (h : chkF s = 0) (hc : complete s = false) (ht : s.c.start ≤ t ∧ t ≤ s.fin) (hr : 1 ≤ ser ∧ ser ≤ 1099511627776) : chkS (sentS s t ser) = 0 := by
  refine chkS_of ?_ ?_
  · obtain ⟨c1, c2, c3⟩ := chkF_zero h
    unfold RngS at c2
    have a1 : RngS (sentS s t ser) := by
      unfold RngS sentS
      simp only
      omega
    have a2 : AckS (sentS s t ser) := c3
    have a0 : chkC (sentS s t ser).c = 0 := c1
    unfold chkF
    rw [if_neg (fun f => f a0), if_neg (fun f => f a1), if_neg (fun f => f a2)]
  · unfold fits
    refine decide_eq_true (.inl ⟨rfl, hc, rfl⟩)
theorem done_ok {s : Snd} (h : chkF s = 0) (hc : complete s = true) : chkS { s with due := 0, st := 2 } = 0 := by
  refine chkS_of h ?_
  unfold fits
  exact decide_eq_true (.inr (.inl ⟨rfl, hc, rfl⟩))
/-- What a step keeps. -/
structure Step (s p : Snd) (o : List Out) : Prop where
  ok : chkS p = 0
  few : p.acked.length ≤ s.acked.length + 100
  data : p.data = s.data
  acc : ∀ t, memS t s.acked → memS t p.acked
  ser : s.ser ≤ p.ser
  busy : s.busy ≤ p.busy
  still : s.st = 1 ∨ o = [] ∧ p = s
  next : o = [] ∨ p.ser = s.ser + 1
  fewO : FewO o
theorem step_send {s q : Snd} {t : Int} {l : List Seg} (h : FOk q) (hc : complete q = false) (h0 : s.st = 1) (h1 : q.c = s.c) (h2 : q.data = s.data) (h3 : q.fin = s.fin) (h4 : q.ser = s.ser) (h5 : q.busy = s.busy) (h6 : q.acked.length ≤ s.acked.length + 100) (h7 : ∀ t, memS t s.acked → memS t q.acked) (ht : s.busy ≤ t)
    (hl : l = [] ∨ Bat q.data q.ses (q.ser + 1) l ∧ q.ser + 1 ≤ 1099511627776) : Step s (sendF q t l).1 (sendF q t l).2 := by
  have hn := h.num
  rcases send_cases (t := t) hl with ⟨e, _⟩ | ⟨hb, hs, he, e⟩
  · rw [e]
    exact ⟨fail_ok h.f, h6, h2, h7, by simp only [failS]; omega, by simp only [failS]; omega, .inl h0, .inl rfl, few_nil⟩
  · rw [e]
    have hE := endAt_le q.c.rate l t
    refine ⟨sent_ok h.f hc (by omega) (by omega), h6, h2, h7, by simp only [sentS]; omega, by simp only [sentS]; omega, .inl h0, .inr (by simp only [sentS]; omega), few_outs hb h.dat.2⟩
theorem step_same {s : Snd} (h : chkS s = 0) : Step s s [] := ⟨h, by omega, rfl, fun _ m => m, Int.le_refl _, Int.le_refl _, .inr ⟨rfl, rfl⟩, .inl rfl, few_nil⟩
theorem wait_step {s : Snd} {t : Int} (h1 : chkS s = 0) (hs : s.acked.length ≤ 100) (h4 : s.st = 1) (h3 : s.due ≤ t ∧ t ≤ 2199023255552) : waitF s t = ((sendF s t (lastOf (batchS s))).1, (sendF s t (lastOf (batchS s))).2, 0) ∧ Step s (sendF s t (lastOf (batchS s))).1 (sendF s t (lastOf (batchS s))).2 := by
  have hF := fok_of h1 hs
  obtain ⟨hc, hd⟩ := fits_wait h1 h4
  have hr := hF.rng
  refine ⟨by unfold waitF; rw [if_neg (by omega), if_neg (by omega), if_neg (by omega)], ?_⟩
  refine step_send hF hc h4 rfl rfl rfl rfl rfl (by omega) (fun _ m => m) (by omega) ?_
  rcases hF.batch hc with ⟨b1, b2⟩ | ⟨b1, b2⟩
  · rw [b2]; exact .inl rfl
  · exact .inr ⟨b2.lastOf, by omega⟩
theorem rep_step {s : Snd} {t : Int} {x : Seg} (h1 : chkS s = 0) (hs : s.acked.length ≤ 100) (g : GOk x) (hk : x.kind = 2) (h4 : s.st = 1) (h3 : s.busy ≤ t) : Step s (repF s t x).1 (repF s t x).2 := by
  have hF := fok_of h1 hs
  unfold repF
  by_cases hq : x.ser ≠ s.ser ∨ x.tot ≠ s.data.size
  · rw [if_pos hq]
    exact step_same h1
  · rw [if_neg hq]
    have hA := ackS_ok hF hs g hk (by omega)
    obtain ⟨k1, k2⟩ := g.cl hk
    rw [show x.tot = (s.data.size : Int) by omega] at k2
    have hdat := hF.dat
    have hcl := g.few
    obtain ⟨u1, u2, u3⟩ := uni_ok hF.ack k1 hF.win k2 (by omega) (by omega)
    have hacc : ∀ t, memS t s.acked → memS t (ackS s x).acked := fun t m => (u3 t).2 (.inl m)
    have hlen : (ackS s x).acked.length ≤ s.acked.length + 100 := by
      have := uni_len hF.ack k1
      have e : (ackS s x).acked = uni s.acked x.claims := rfl
      rw [e]
      omega
    by_cases hc : complete (ackS s x) = true
    · rw [if_pos hc]
      exact ⟨done_ok hA.f hc, hlen, rfl, hacc, Int.le_refl _, Int.le_refl _, .inl h4, .inl rfl, few_nil⟩
    · rw [if_neg hc]
      have hc : complete (ackS s x) = false := by simpa using hc
      refine step_send hA hc h4 rfl rfl rfl rfl rfl hlen hacc h3 ?_
      rcases hA.batch hc with ⟨b1, b2⟩ | ⟨b1, b2⟩
      · exact .inl b2
      · exact .inr ⟨b2, by omega⟩
theorem hear_step {s : Snd} {t : Int} {x : Seg} (h1 : chkS s = 0) (hs : s.acked.length ≤ 100) (h2 : chkG x = 0) (hx : x.claims.length ≤ 100 ∨ 1000 < x.claims.length) (h3 : s.busy ≤ t ∧ t ≤ 2199023255552) : (hearF s t x).2.2 = 0 ∧ Step s (hearF s t x).1 (hearF s t x).2.1 := by
  have hG := gok_of h2 hx
  unfold hearF
  rw [if_neg (by omega), if_neg (by omega)]
  by_cases q1 : s.st ≠ 1 ∨ x.ses ≠ s.ses ∨ x.kind = 1
  · rw [if_pos q1]
    exact ⟨rfl, step_same h1⟩
  · rw [if_neg q1]
    by_cases q2 : x.kind = 3
    · rw [if_pos q2]
      exact ⟨rfl, fail_ok (chkS_zero h1).1, by simp only [failS]; omega, rfl, fun _ m => m, Int.le_refl _, Int.le_refl _, .inl (by omega), .inl rfl, few_nil⟩
    · rw [if_neg q2]
      have := (chkG_zero h2).1
      exact ⟨rfl, rep_step h1 hs hG (by omega) (by omega) h3.1⟩
theorem hear_err {s : Snd} {t : Int} {x : Seg} (h : ¬ (chkS s = 0 ∧ chkG x = 0 ∧ s.busy ≤ t ∧ t ≤ 2199023255552)) : ∃ e, e ≠ 0 ∧ hearF s t x = errF e := by
  unfold hearF
  by_cases q : chkS s ≠ 0 ∨ chkG x ≠ 0
  · exact ⟨1, by omega, by rw [if_pos q]⟩
  · exact ⟨2, by omega, by rw [if_neg q, if_pos (by omega)]⟩
theorem wait_err {s : Snd} {t : Int} (h : ¬ (chkS s = 0 ∧ s.st = 1 ∧ s.due ≤ t ∧ t ≤ 2199023255552)) : ∃ e, e ≠ 0 ∧ waitF s t = errF e := by
  unfold waitF
  by_cases q : chkS s ≠ 0
  · exact ⟨1, by omega, by rw [if_pos q]⟩
  · by_cases q2 : s.st ≠ 1
    · exact ⟨19, by omega, by rw [if_neg q, if_pos q2]⟩
    · exact ⟨2, by omega, by rw [if_neg q, if_neg q2, if_pos (by omega)]⟩
end Ab

set_option linter.unusedVariables false
set_option linter.unusedSimpArgs false
namespace Ab
open Go
theorem same_snd (p : Snd) (h : p.acked.length ≤ 1000000) : Runs C 13 (p.enc ++ p.enc) [.bool true] := by
  have := s13 p p h
  simpa using this
theorem same_out (o : List Out) (h : FewO o) : Runs C 14 [.sl 9 (o.map Out.enc), .sl 9 (o.map Out.enc)] [.bool true] := by
  have := s14 o o h.1 h.2
  simpa using this
theorem great_no {s : Snd} (h : greatS s = false) : s.data.size ≤ 200 ∧ s.acked.length ≤ 30 := by
  unfold greatS at h
  have := of_decide_eq_false h
  omega
theorem greatG_no {x : Seg} (h : greatG x = false) : x.claims.length ≤ 100 ∨ 1000 < x.claims.length := by
  unfold greatG at h
  have := of_decide_eq_false h
  omega
theorem start_few (c : Con) (ses : Int) (d : ByteArray) (b e : Int) : (startF c ses d b e).1.acked = [] ∧ FewO (startF c ses d b e).2.1 := by
  unfold startF
  by_cases h1 : chkC c ≠ 0
  · rw [if_pos h1]; exact ⟨rfl, few_nil⟩
  rw [if_neg h1]
  by_cases h2 : ¬ (0 ≤ ses ∧ ses ≤ 1099511627776)
  · rw [if_pos h2]; exact ⟨rfl, few_nil⟩
  rw [if_neg h2]
  by_cases h3 : d.size = 0
  · rw [if_pos h3]; exact ⟨rfl, few_nil⟩
  rw [if_neg h3]
  by_cases h4 : 65536 < d.size
  · rw [if_pos h4]; exact ⟨rfl, few_nil⟩
  rw [if_neg h4]
  by_cases h5 : b < c.start ∨ e < b ∨ c.fin < e
  · rw [if_pos h5]; exact ⟨rfl, few_nil⟩
  rw [if_neg h5]
  have hb := bat_form (start_bat (ses := ses) (d := d) (by omega) (by omega))
  rcases send_cases (s := startS c ses d e) (t := b) (.inr ⟨hb, by omega⟩) with ⟨e1, _⟩ | ⟨_, _, _, e1⟩
  · rw [e1]
    by_cases h6 : (failS (startS c ses d e), ([] : List Out)).1.st = 3
    · rw [if_pos h6]; exact ⟨rfl, few_nil⟩
    · rw [if_neg h6]; exact ⟨rfl, few_nil⟩
  · rw [e1]
    rw [if_neg (by simp only [sentS]; omega)]
    exact ⟨rfl, few_outs hb (by omega)⟩
theorem hear_few {s : Snd} {t : Int} {x : Seg} (hs : s.acked.length ≤ 100) (hx : x.claims.length ≤ 100 ∨ 1000 < x.claims.length) : (hearF s t x).1.acked.length ≤ 1000000 ∧ FewO (hearF s t x).2.1 := by
  by_cases h : chkS s = 0 ∧ chkG x = 0 ∧ s.busy ≤ t ∧ t ≤ 2199023255552
  · obtain ⟨_, k⟩ := hear_step h.1 hs h.2.1 hx h.2.2
    exact ⟨by have := k.few; omega, k.fewO⟩
  · obtain ⟨e, _, k⟩ := hear_err h
    rw [k]
    exact ⟨by simp [errF, zeroS], few_nil⟩
theorem wait_few {s : Snd} {t : Int} (hs : s.acked.length ≤ 100) : (waitF s t).1.acked.length ≤ 1000000 ∧ FewO (waitF s t).2.1 := by
  by_cases h : chkS s = 0 ∧ s.st = 1 ∧ s.due ≤ t ∧ t ≤ 2199023255552
  · obtain ⟨e, k⟩ := wait_step h.1 hs h.2.1 h.2.2
    rw [e]
    exact ⟨by have := k.few; simp only; omega, k.fewO⟩
  · obtain ⟨e, _, k⟩ := wait_err h
    rw [k]
    exact ⟨by simp [errF, zeroS], few_nil⟩
theorem law3 (c : Con) (ses : Int) (d : ByteArray) (b e : Int) : Runs C 3 (c.enc ++ [tI ses, .str d, tI b, tI e]) [.bool true] := by
  refine Runs.of (fun n => e3 n _ _ _ _ _ _ _ _ _ _ _) ?_
  obtain ⟨f1, f2⟩ := start_few c ses d b e
  refine (s10.and ((s11 c ses d b e).and ((s12 c ses d b e).and ((same_snd (startF c ses d b e).1 (by rw [f1]; simp)).and (same_out _ f2))))).mono fun n g => ?_
  obtain ⟨g1, g2, g3, g4, g5⟩ := g
  generalize startF c ses d b e = p at g2 g3 g4 g5
  obtain ⟨p, o, z⟩ := p
  simp only [Con.enc, Snd.enc, ret3, List.cons_append, List.nil_append] at g2 g3 g4 g5
  simp only [vv, reduceCtorEq, Nat.reduceAdd, Nat.reduceEqDiff]
  by_cases q1 : (200 : Int) < (d.size : Int)
  · by_cases q2 : (d.size : Int) ≤ 65536
    · simp only [q1, q2, vv, reduceCtorEq, Nat.reduceAdd, Nat.reduceEqDiff, J3_1, g1]
    · by_cases q3 : (65545 : Int) < (d.size : Int)
      · simp only [q1, q2, q3, vv, reduceCtorEq, Nat.reduceAdd, Nat.reduceEqDiff, J3_1, g1]
      · simp only [q1, q2, q3, vv, reduceCtorEq, Nat.reduceAdd, Nat.reduceEqDiff, J3_1, g1, g2, g3, g4, g5, beq_self_eq_true]
  · have q3 : ¬ (65545 : Int) < (d.size : Int) := by omega
    simp only [q1, q3, vv, reduceCtorEq, Nat.reduceAdd, Nat.reduceEqDiff, J3_1, g1, g2, g3, g4, g5, beq_self_eq_true]
theorem law4 (s : Snd) (t : Int) (x : Seg) : Runs C 4 (s.enc ++ [tI t] ++ x.enc) [.bool true] := by
  refine Runs.of (fun n => e4 n _ _ _ _ _ _ _ _ _ _ _ _ _ _ _ _ _ _ _ _ _ _ _ _) ?_
  cases hs : greatS s
  · cases hx : greatG x
    · have b1 := great_no hs
      have b2 := greatG_no hx
      obtain ⟨f1, f2⟩ := hear_few (s := s) (t := t) (x := x) (by omega) b2
      refine (s10.and ((s15 s).and ((s16 x).and ((s17 s t x (by omega) b2).and ((s18 s t x (by omega) b2).and ((same_snd _ f1).and (same_out _ f2))))))).mono fun n g => ?_
      obtain ⟨g1, g2, g3, g4, g5, g6, g7⟩ := g
      rw [hs] at g2
      rw [hx] at g3
      generalize hearF s t x = p at g4 g5 g6 g7
      obtain ⟨p, o, z⟩ := p
      simp only [Snd.enc, Seg.enc, ret3, List.cons_append, List.nil_append] at g2 g3 g4 g5 g6 g7
      simp only [vv, reduceCtorEq, Nat.reduceAdd, Nat.reduceEqDiff, g1, g2, g3, g4, g5, g6, g7, J4_1, beq_self_eq_true]
    · refine (s10.and ((s15 s).and (s16 x))).mono fun n g => ?_
      obtain ⟨g1, g2, g3⟩ := g
      rw [hs] at g2
      rw [hx] at g3
      simp only [Snd.enc, Seg.enc] at g2 g3
      simp only [vv, reduceCtorEq, Nat.reduceAdd, Nat.reduceEqDiff, g1, g2, g3, J4_1]
  · refine (s10.and (s15 s)).mono fun n g => ?_
    obtain ⟨g1, g2⟩ := g
    rw [hs] at g2
    simp only [Snd.enc] at g2
    simp only [vv, reduceCtorEq, Nat.reduceAdd, Nat.reduceEqDiff, g1, g2, J4_1]
theorem miss_len {s : Snd} (hs : s.acked.length ≤ 100) : (missL s).length ≤ 1000000 := by
  unfold missL
  by_cases h : chkS s = 0
  · rw [if_pos h]
    have hF := fok_of h hs
    have := chkL_len hF.left_chk
    omega
  · rw [if_neg h]
    simp
theorem law7 (s : Snd) (t : Int) : Runs C 7 (s.enc ++ [tI t]) [.bool true] := by
  refine Runs.of (fun n => e7 n _ _ _ _ _ _ _ _ _ _ _ _ _ _ _ _) ?_
  cases hs : greatS s
  · have b1 := great_no hs
    obtain ⟨f1, f2⟩ := wait_few (s := s) (t := t) (by omega)
    have t30 := s30 (missL s) (missL s) (miss_len (by omega))
    simp only [decide_true] at t30
    refine (s10.and ((s15 s).and ((s26 s t (by omega)).and ((s27 s t (by omega)).and ((same_snd _ f1).and ((same_out _ f2).and ((s25 s).and ((s28 s (by omega)).and ((s19 s).and ((s29 s (by omega)).and t30)))))))))).mono fun n g => ?_
    obtain ⟨g1, g2, g3, g4, g5, g6, g7, g8, g9, g10, g11⟩ := g
    rw [hs] at g2
    generalize waitF s t = p at g3 g4 g5 g6
    obtain ⟨p, o, z⟩ := p
    simp only [Snd.enc, ret3, List.cons_append, List.nil_append] at g2 g3 g4 g5 g6 g7 g8 g9 g10
    simp only [vv, reduceCtorEq, Nat.reduceAdd, Nat.reduceEqDiff, g1, g2, g3, g4, g5, g6, g7, g8, g9, g10, g11, beq_self_eq_true]
  · refine (s10.and (s15 s)).mono fun n g => ?_
    obtain ⟨g1, g2⟩ := g
    rw [hs] at g2
    simp only [Snd.enc] at g2
    simp only [vv, reduceCtorEq, Nat.reduceAdd, Nat.reduceEqDiff, g1, g2]
end Ab

set_option linter.unusedVariables false
set_option linter.unusedSimpArgs false
namespace Ab
open Go
theorem timeE_zero {r : Int} {x : Seg} (h : chkG x = 0) (hr : 1 ≤ r ∧ r ≤ 1000) : timeE r x = 0 := by
  unfold timeE
  rw [if_neg (by omega), if_neg (by omega)]
theorem s22 (s : Snd) (d : ByteArray) (l : List Seg) (t : Int) (h : l = [] ∨ Bat d s.ses s.ser l ∧ s.busy = endAt s.c.rate t l ∧ s.busy ≤ s.fin ∧ s.due = s.busy + 2 * s.c.rng + 1 ∧ s.st = 1)
    (hs : 0 ≤ s.ses ∧ s.ses ≤ 1099511627776) (hq : 1 ≤ s.ser ∧ s.ser ≤ 1099511627776) (hd : 1 ≤ d.size ∧ d.size ≤ 65536) (hr : 1 ≤ s.c.rate ∧ s.c.rate ≤ 1000) (hg : 0 ≤ s.c.rng ∧ s.c.rng ≤ 1048576) (ht : 0 ≤ t ∧ t ≤ 4398046511104) :
    Runs C 22 (s.enc ++ [.sl 9 ((outsF s.c.rate t l).map Out.enc), tI t]) [.bool true] := by
  refine Runs.of (fun n => e22 n _ _ _ _ _ _ _ _ _ _ _ _ _ _ _ _ _) ?_
  have hl : l.length ≤ 100000000 := by
    rcases h with rfl | ⟨h, _⟩
    · simp
    · exact h.len2 hd.2
  refine loop_at l (fun i => (([.t (tI (endAt s.c.rate t (l.take i))), .t (tI i)], []) : List AV × Heap)) rfl (fun i x hx => ?_) ?_
  · obtain ⟨hb, h1, h2, h3, h4⟩ : Bat d s.ses s.ser l ∧ s.busy = endAt s.c.rate t l ∧ s.busy ≤ s.fin ∧ s.due = s.busy + 2 * s.c.rng + 1 ∧ s.st = 1 := by
      rcases h with rfl | h
      · cases hx
      · exact h
    have hi := lt_of_some hx
    have hto := ticks_nn s.c.rate x
    have hE := endAt_le s.c.rate (l.take i) t
    have hL : (l.take i).length = i := by rw [List.length_take]; omega
    have hO := outsF_len s.c.rate l t
    rw [hL] at hE
    obtain ⟨g1, g2, g3, g4⟩ := hb.good hs hq hd hx
    have hG := outsF_get s.c.rate l t i x hx
    have t31 := s31 s.c.rate x
    rw [timeE_zero g1 hr] at t31
    refine t31.mono fun n y again => ?_
    simp only [Seg.enc, g2] at y
    rw [take_succ_of hx, endAt_app]
    have hchk : (x.chk == ((i : Int) == w64 ((l.length : Int) - 1))) = true := by
      rw [w64_id (by omega) (by omega), g3]
      by_cases q : i = l.length - 1
      · have q2 : (i : Int) = (l.length : Int) - 1 := by omega
        rw [q2]
        simp [q]
      · have : ¬ (i : Int) = (l.length : Int) - 1 := by omega
        simp [q, this]
    simp only [L22_1, vv, reduceCtorEq, Nat.reduceAdd, Nat.reduceEqDiff, hO, hG, (show (i : Int) < (l.length : Int) by omega), Out.enc, y, w64_id (x := endAt s.c.rate t (l.take i) + ticks s.c.rate x) (by omega) (by omega), bne_self_eq_false, g2, hchk, w64_succ (show i < 4611686018427387904 by omega)]
    cases hcc : x.chk
    · simp only [vv, reduceCtorEq, Nat.reduceAdd, Nat.reduceEqDiff]
    · have := g4 hcc
      simp only [vv, reduceCtorEq, Nat.reduceAdd, Nat.reduceEqDiff, this, bne_self_eq_false]
  · rw [List.take_length]
    refine Ev.of fun n again => ?_
    have hO := outsF_len s.c.rate l t
    rcases h with rfl | ⟨hb, h1, h2, h3, h4⟩
    · simp only [L22_1, vv, reduceCtorEq, Nat.reduceAdd, Nat.reduceEqDiff, outsF, List.map_nil, Int.lt_irrefl, nc0, beq_self_eq_true]
    · have hE := endAt_le s.c.rate l t
      have hp := List.length_pos_iff.2 hb.ne
      simp only [L22_1, vv, reduceCtorEq, Nat.reduceAdd, Nat.reduceEqDiff, hO, Int.lt_irrefl, beq_iff_eq, (show ¬ ((l.length : Int) = 0) by omega), ← h1, h2, h3, h4, w64_id (x := 2 * s.c.rng) (by omega) (by omega), w64_id (x := s.busy + 2 * s.c.rng) (by omega) (by omega), w64_id (x := s.busy + 2 * s.c.rng + 1) (by omega) (by omega), beq_self_eq_true]
theorem bne_bytes (a : ByteArray) : (a != a) = false := by
  show (!(a == a)) = false
  rw [beq_bytes]
  simp
theorem miss_ok {s : Snd} (h : chkS s = 0) : missL s = leftS s ∧ missE s = 0 := by
  unfold missL missE
  rw [if_pos h, if_pos h]
  exact ⟨rfl, rfl⟩
theorem law8 (s : Snd) (t : Int) : Runs C 8 (s.enc ++ [tI t]) [.bool true] := by
  refine Runs.of (fun n => e8 n _ _ _ _ _ _ _ _ _ _ _ _ _ _ _ _) ?_
  cases hs : greatS s
  · have b1 := great_no hs
    have hk : s.acked.length ≤ 100 := by omega
    by_cases hm : 1099511627776 ≤ s.ser
    · refine (s10.and (s15 s)).mono fun n g => ?_
      obtain ⟨g1, g2⟩ := g
      rw [hs] at g2
      simp only [Snd.enc] at g2
      simp only [vv, reduceCtorEq, Nat.reduceAdd, Nat.reduceEqDiff, g1, g2, hm, J8_2]
    · by_cases h : chkS s = 0 ∧ s.st = 1 ∧ s.due ≤ t ∧ t ≤ 2199023255552
      · obtain ⟨h1, h2, h3⟩ := h
        have hF := fok_of h1 hk
        obtain ⟨hc, hdue⟩ := fits_wait h1 h2
        have hr := hF.rng
        have hn := hF.num
        obtain ⟨e, hst⟩ := wait_step h1 hk h2 h3
        rcases hF.batch hc with ⟨bb, _⟩ | ⟨hser, hB⟩
        · omega
        obtain ⟨m1, m2⟩ := miss_ok h1
        have t25 := s25 s
        rw [m1, m2] at t25
        have t21 := s21 s.ses (s.ser + 1) s.data (leftS s)
        rw [hF.bat hc hser] at t21
        have t21 : Runs C 21 [tI s.ses, tI (s.ser + 1), .str s.data, .sl 2 ((leftS s).map Span.enc)] [.sl 8 ((batchS s).map Seg.enc), tI 0] := t21
        obtain ⟨pre, z, hz, hz1, hz2⟩ := hB.ex
        have hlo : lastOf (batchS s) = [{ z with ser := s.ser + 1, chk := true }] := by rw [hz, lastOf_concat]
        have hgood := hB.lastOf.good hn.1 (by omega) hF.dat (i := 0) (y := { z with ser := s.ser + 1, chk := true }) (by rw [hlo]; rfl)
        have hlast : (batchS s)[(batchS s).length - 1]? = some { z with ser := s.ser + 1, chk := true } := by
          rw [hz]
          simp
        have hlen : 1 ≤ (batchS s).length ∧ (batchS s).length ≤ 65537 := by
          have := hB.len
          have := hF.dat
          have : 1 ≤ (batchS s).length := by rw [hz]; simp
          omega
        have t26 := s26 s t hk
        rw [e] at t26
        have t30 : Runs C 30 [.sl 2 (s.acked.map Span.enc), .sl 2 (s.acked.map Span.enc)] [.bool true] := by
          have := s30 s.acked s.acked (by omega)
          simpa using this
        have tpos : 0 ≤ t ∧ t ≤ 4398046511104 := by omega
        rcases send_cases (s := s) (t := t) (d := s.data) (ser := s.ser + 1) (l := lastOf (batchS s)) (.inr ⟨hB.lastOf, by omega⟩) with ⟨q1, q2⟩ | ⟨_, q1, q2, q3⟩
        · rw [q1] at t26 hst
          have q2 : s.fin < endAt s.c.rate t (lastOf (batchS s)) := by
            rcases q2 with q2 | q2
            · rw [hlo] at q2; cases q2
            · exact q2
          rw [hlo] at q2
          generalize hz' : ({ z with ser := s.ser + 1, chk := true } : Seg) = z' at q2 hlast hgood
          have q2 : s.fin < t + ticks s.c.rate z' := q2
          have t31 := s31 s.c.rate z'
          rw [timeE_zero hgood.1 (by omega)] at t31
          have ht31 := ticks_nn s.c.rate z'
          have t19 := s19 (failS s)
          rw [hst.ok] at t19
          generalize batchS s = bt at t21 hlast hlen
          refine (s10.and ((s15 s).and (t26.and (t25.and (t21.and (t19.and (t30.and t31))))))).mono fun n g => ?_
          obtain ⟨g1, g2, g3, g4, g5, g6, g7, g8⟩ := g
          rw [hs] at g2
          simp only [Snd.enc, Seg.enc, ret3, failS, List.map_nil, List.cons_append, List.nil_append] at g2 g3 g4 g5 g6 g8
          have e1 : w64 ((bt.length : Int) - 1) = ((bt.length - 1 : Nat) : Int) := by rw [w64_id (by omega) (by omega)]; omega
          simp only [vv, reduceCtorEq, Nat.reduceAdd, Nat.reduceEqDiff, g1, g2, g3, hm, J8_2, g4, bne_self_eq_false, bne_bytes, w64_id (x := s.ser + 1) (by omega) (by omega), g5, beq_iff_eq, (show ¬ ((bt.length : Int) = 0) by omega), g6, g7, J8_1, e1, (show ((bt.length - 1 : Nat) : Int) < (bt.length : Int) by omega), hlast, Seg.enc, g8, nc0, w64_id (x := t + ticks s.c.rate z') (by omega) (by omega), q2]
        · rw [q3] at t26 hst
          rw [hlo] at t26 hst q2
          have t22 := s22 (sentS s (endAt s.c.rate t [{ z with ser := s.ser + 1, chk := true }]) (s.ser + 1)) s.data [{ z with ser := s.ser + 1, chk := true }] t (.inr ⟨by have := hB.lastOf; rw [hlo] at this; exact this, rfl, q2, rfl, rfl⟩) hn.1 (by simp only [sentS]; omega) hF.dat (by simp only [sentS]; omega) (by simp only [sentS]; omega) tpos
          generalize hz' : ({ z with ser := s.ser + 1, chk := true } : Seg) = z' at q2 hlast hgood t26 hst t22
          have hcl : z'.claims = [] := by rw [← hz']; exact hz1.cl
          have t23 : Runs C 23 (z'.enc ++ z'.enc) [.bool true] := by
            have := s23 z' z' (by rw [hcl]; simp)
            simpa using this
          have t19 := s19 (sentS s (endAt s.c.rate t [z']) (s.ser + 1))
          rw [hst.ok] at t19
          generalize batchS s = bt at t21 hlast hlen
          refine (s10.and ((s15 s).and (t26.and (t25.and (t21.and (t19.and (t30.and (t22.and t23)))))))).mono fun n g => ?_
          obtain ⟨g1, g2, g3, g4, g5, g6, g7, g8, g9⟩ := g
          rw [hs] at g2
          simp only [Snd.enc, Seg.enc, ret3, sentS, outsF, endAt, Out.enc, List.map_cons, List.map_nil, List.cons_append, List.nil_append] at g2 g3 g4 g5 g6 g8 g9
          have e1 : w64 ((bt.length : Int) - 1) = ((bt.length - 1 : Nat) : Int) := by rw [w64_id (by omega) (by omega)]; omega
          simp only [vv, reduceCtorEq, Nat.reduceAdd, Nat.reduceEqDiff, g1, g2, g3, hm, J8_2, g4, bne_self_eq_false, bne_bytes, w64_id (x := s.ser + 1) (by omega) (by omega), g5, beq_iff_eq, (show ¬ ((bt.length : Int) = 0) by omega), g6, g7, J8_1, e1, (show ((bt.length - 1 : Nat) : Int) < (bt.length : Int) by omega), hlast, Seg.enc, nc1, Int.reduceEq, List.getElem?_cons_zero, g9, g8]
      · obtain ⟨z, hz, e⟩ := wait_err h
        have t26 := s26 s t hk
        rw [e] at t26
        refine (s10.and ((s15 s).and t26)).mono fun n g => ?_
        obtain ⟨g1, g2, g3⟩ := g
        rw [hs] at g2
        simp only [Snd.enc, ret3, errF, zeroS, List.map_nil, List.cons_append, List.nil_append] at g2 g3
        simp only [vv, reduceCtorEq, Nat.reduceAdd, Nat.reduceEqDiff, g1, g2, g3, hm, J8_2, bne_iff_ne, ne_eq, hz, not_false_eq_true, nc0, beq_self_eq_true]
  · refine (s10.and (s15 s)).mono fun n g => ?_
    obtain ⟨g1, g2⟩ := g
    rw [hs] at g2
    simp only [Snd.enc] at g2
    simp only [vv, reduceCtorEq, Nat.reduceAdd, Nat.reduceEqDiff, g1, g2, J8_2]
end Ab

set_option linter.unusedVariables false
set_option linter.unusedSimpArgs false
namespace Ab
open Go
def allX (s : Snd) : Seg := ⟨2, s.ses, s.ser, 0, s.data.size, false, ByteArray.mk #[], wholeS s.data⟩
theorem allX_ok {s : Snd} (h : FOk s) : chkG (allX s) = 0 := by
  have hn := h.num
  have hd := h.dat
  have n : SegNum (allX s) := by
    unfold SegNum allX
    simp only
    exact ⟨hn.1, fun f => absurd f (by decide), fun _ => ⟨by omega, by omega, by first | trivial | rfl⟩, fun f => absurd f (by decide)⟩
  have c : SegCon (allX s) := by
    unfold SegCon allX
    simp only
    exact ⟨fun f => absurd f (by decide), fun _ => ⟨trivial, rfl, whole_in hd⟩, fun f => absurd f (by decide)⟩
  unfold chkG
  rw [if_neg (by simp only [allX]; omega), if_neg (fun f => f n), if_neg (fun f => f c)]
theorem uni_whole {s : Snd} (h : FOk s) : uni s.acked (wholeS s.data) = wholeS s.data := by
  have hw := (chkL_iff _).1 (chk_whole h.dat)
  obtain ⟨k1, k2⟩ := uni_spec ((chkL_iff _).1 h.ack).2.1 hw.2.1
  refine canon_unique k1 hw.2.1 fun t => ?_
  rw [k2]
  constructor
  · rintro (m | m)
    · have := within_mem h.win m
      simp only [wholeS, memS, or_false]
      exact this
    · exact m
  · exact .inr
theorem hear_all {s : Snd} {t : Int} (h1 : chkS s = 0) (hs : s.acked.length ≤ 100) (h3 : s.busy ≤ t ∧ t ≤ 2199023255552) :
    ∃ p, hearF s t (allX s) = (p, [], 0) ∧ p.acked.length ≤ 1000000 ∧ (s.st = 1 → p.st = 2) ∧ (s.st ≠ 1 → p = s) := by
  have hF := fok_of h1 hs
  have hX := allX_ok hF
  unfold hearF
  rw [if_neg (by omega), if_neg (by omega)]
  by_cases q : s.st = 1
  · rw [if_neg (by simp only [allX]; omega), if_neg (by simp only [allX]; omega)]
    unfold repF
    have e : ackS s (allX s) = { s with acked := wholeS s.data } := by
      unfold ackS
      rw [show (allX s).claims = wholeS s.data from rfl, uni_whole hF]
    have hc : complete (ackS s (allX s)) = true := by
      rw [e]
      unfold complete
      simp
    rw [if_neg (by simp only [allX]; omega), if_pos hc, e]
    exact ⟨_, rfl, by simp [wholeS], fun _ => rfl, fun f => absurd q f⟩
  · rw [if_pos (.inl q)]
    exact ⟨s, rfl, by omega, fun f => absurd f q, fun _ => rfl⟩
theorem hear_idle {s : Snd} {t : Int} {x : Seg} (h1 : chkS s = 0) (h2 : chkG x = 0) (h3 : s.busy ≤ t ∧ t ≤ 2199023255552) (h : ¬ (x.ses = s.ses ∧ (x.kind = 3 ∨ x.kind = 2 ∧ x.ser = s.ser ∧ x.tot = s.data.size))) : hearF s t x = (s, [], 0) := by
  have hk := (chkG_zero h2).1
  unfold hearF
  rw [if_neg (by omega), if_neg (by omega)]
  by_cases q : s.st ≠ 1 ∨ x.ses ≠ s.ses ∨ x.kind = 1
  · rw [if_pos q]
  · rw [if_neg q, if_neg (by omega)]
    unfold repF
    rw [if_pos (by omega)]
theorem law5 (s : Snd) (t : Int) (x : Seg) : Runs C 5 (s.enc ++ [tI t] ++ x.enc) [.bool true] := by
  refine Runs.of (fun n => e5 n _ _ _ _ _ _ _ _ _ _ _ _ _ _ _ _ _ _ _ _ _ _ _ _) ?_
  cases hs : greatS s
  · cases hx : greatG x
    · have b1 := great_no hs
      have b2 := greatG_no hx
      have hk : s.acked.length ≤ 100 := by omega
      by_cases h1 : chkS s = 0
      · by_cases w1 : t < s.busy
        · refine (s10.and ((s15 s).and ((s16 x).and (s19 s)))).mono fun n g => ?_
          obtain ⟨g1, g2, g3, g4⟩ := g
          rw [hs] at g2
          rw [hx] at g3
          rw [h1] at g4
          simp only [Snd.enc, Seg.enc] at g2 g3 g4
          simp only [vv, reduceCtorEq, Nat.reduceAdd, Nat.reduceEqDiff, g1, g2, g3, g4, bne_self_eq_false, w1, J5_3]
        · by_cases w2 : 2199023255552 < t
          · refine (s10.and ((s15 s).and ((s16 x).and (s19 s)))).mono fun n g => ?_
            obtain ⟨g1, g2, g3, g4⟩ := g
            rw [hs] at g2
            rw [hx] at g3
            rw [h1] at g4
            simp only [Snd.enc, Seg.enc] at g2 g3 g4
            simp only [vv, reduceCtorEq, Nat.reduceAdd, Nat.reduceEqDiff, g1, g2, g3, g4, bne_self_eq_false, w1, w2, J5_3]
          · have h3 : s.busy ≤ t ∧ t ≤ 2199023255552 := by omega
            obtain ⟨p0, e0, a0, st0, st1⟩ := hear_all h1 hk h3
            have t17a := s17 s t (allX s) hk (.inl (by simp [allX, wholeS]))
            rw [e0] at t17a
            have t17 := s17 s t x hk b2
            obtain ⟨f1, f2⟩ := hear_few (s := s) (t := t) (x := x) hk b2
            have t13 := s13 s (hearF s t x).1 (by omega)
            have hz : (hearF s t x).2.2 = 0 ↔ chkG x = 0 := by
              constructor
              · intro hz
                by_cases hg : chkG x = 0
                · exact hg
                · obtain ⟨z, hz0, ez⟩ := hear_err (s := s) (t := t) (x := x) (fun f => hg f.2.1)
                  rw [ez] at hz
                  exact absurd hz hz0
              · exact fun hg => (hear_step h1 hk hg b2 h3).1
            have hstill : chkG x = 0 → s.st ≠ 1 → (hearF s t x).2.1 = [] ∧ (hearF s t x).1 = s := fun hg hst => by
              rcases (hear_step h1 hk hg b2 h3).2.still with q | q
              · exact absurd q hst
              · exact q
            have hidle : chkG x = 0 → ¬ (x.ses = s.ses ∧ (x.kind = 3 ∨ x.kind = 2 ∧ x.ser = s.ser ∧ x.tot = s.data.size)) → (hearF s t x).2.1 = [] ∧ (hearF s t x).1 = s := fun hg hn => by
              rw [hear_idle h1 hg h3 hn]
              exact ⟨rfl, rfl⟩
            generalize hearF s t x = r at t17 t13 hz hstill hidle f1 f2
            obtain ⟨p, o, z⟩ := r
            simp only at t13 hz hstill hidle f1 f2
            refine (s10.and ((s15 s).and ((s16 x).and ((s19 s).and (t17a.and (t17.and ((s20 x).and (t13.and (s13 s p0 (by omega)))))))))).mono fun n g => ?_
            obtain ⟨g1, g2, g3, g4, g5, g6, g7, g8, g9⟩ := g
            rw [hs] at g2
            rw [hx] at g3
            rw [h1] at g4
            have key : ∀ m : Bool, (chkG x = 0 → s.st ≠ 1 ∨ m = false → o = [] ∧ p = s) → J5_1 n (ret3 (p, o, z)) x.kind x.ses x.ser x.off x.tot x.chk x.data (x.claims.map Span.enc) s.st s.c.frm s.c.dst s.c.start s.c.fin s.c.rate s.c.rng s.c.loss s.ses s.data s.fin s.busy s.ser (s.acked.map Span.enc) s.due
                (([.t (.bool m)], [.box [], sndBox p]) : List AV × Heap) = some [.bool true] := by
              intro m hm
              simp only [Snd.enc, Seg.enc, ret3, List.cons_append, List.nil_append] at g7 g8 ⊢
              by_cases hg : chkG x = 0
              · have hz0 := hz.2 hg
                by_cases q : s.st ≠ 1 ∨ m = false
                · obtain ⟨e1, e2⟩ := hm hg q
                  subst e1
                  subst e2
                  simp only [decide_true] at g8
                  cases m
                  · simp only [J5_1, sndBox, vv, reduceCtorEq, Nat.reduceAdd, Nat.reduceEqDiff, hz0, bne_self_eq_false, List.map_nil, nc0, beq_self_eq_true, g8, g1]
                  · have q : ¬ p.st = 1 := by simpa using q
                    simp only [J5_1, sndBox, vv, reduceCtorEq, Nat.reduceAdd, Nat.reduceEqDiff, hz0, bne_self_eq_false, List.map_nil, nc0, beq_self_eq_true, beq_iff_eq, q, g8, g1]
                · have q1 : s.st = 1 := by
                    by_cases k : s.st = 1
                    · exact k
                    · exact absurd (.inl k) q
                  have q2 : m = true := by
                    cases m
                    · exact absurd (.inr rfl) q
                    · rfl
                  subst q2
                  simp only [J5_1, vv, reduceCtorEq, Nat.reduceAdd, Nat.reduceEqDiff, hz0, bne_self_eq_false, q1, beq_self_eq_true, g1]
              · have hz0 : ¬ z = 0 := fun f => hg (hz.1 f)
                simp only [J5_1, vv, reduceCtorEq, Nat.reduceAdd, Nat.reduceEqDiff, bne_iff_ne, ne_eq, hz0, not_false_eq_true, g7, hg, g1]
            have hne : ∀ m : Bool, m = true ∨ ¬ (x.ses = s.ses ∧ (x.kind = 3 ∨ x.kind = 2 ∧ x.ser = s.ser ∧ x.tot = s.data.size)) → (chkG x = 0 → s.st ≠ 1 ∨ m = false → o = [] ∧ p = s) := by
              intro m hm hg hq
              rcases hq with hq | hq
              · exact hstill hg hq
              · rcases hm with hm | hm
                · rw [hm] at hq; cases hq
                · exact hidle hg hm
            have key2 : J5_2 n s.c.frm s.c.dst s.c.start s.c.fin s.c.rate s.c.rng s.c.loss s.ses s.data s.fin s.busy s.ser (s.acked.map Span.enc) s.due s.st t x.kind x.ses x.ser x.off x.tot x.chk x.data (x.claims.map Span.enc) (([.t (.bool false)], [.box [], sndBox p0]) : List AV × Heap) = some [.bool true] := by
              have kk : ∀ m : Bool, m = true ∨ ¬ (x.ses = s.ses ∧ (x.kind = 3 ∨ x.kind = 2 ∧ x.ser = s.ser ∧ x.tot = s.data.size)) → _ := fun m hm => key m (hne m hm)
              simp only [Snd.enc, Seg.enc, ret3, sndBox, List.cons_append, List.nil_append] at g6 kk
              simp only [J5_2, vv, reduceCtorEq, Nat.reduceAdd, Nat.reduceEqDiff, g6]
              by_cases q1 : x.ses = s.ses
              · by_cases q2 : x.kind = 3
                · simp only [q1, q2, beq_self_eq_true, vv, reduceCtorEq, Nat.reduceAdd, Nat.reduceEqDiff]
                  have := kk true (.inl rfl)
                  simp only [q1, q2] at this
                  exact this
                · by_cases q3 : x.kind = 2
                  · by_cases q4 : x.ser = s.ser
                    · simp only [q1, q3, q4, beq_self_eq_true, vv, reduceCtorEq, Nat.reduceAdd, Nat.reduceEqDiff, Int.reduceBEq]
                      have := kk (x.tot == (s.data.size : Int)) (by
                        by_cases q5 : x.tot = s.data.size
                        · exact .inl (by simp [q5])
                        · exact .inr (by omega))
                      simp only [q1, q3, q4] at this
                      exact this
                    · simp only [q1, q3, q4, beq_self_eq_true, beq_iff_eq, vv, reduceCtorEq, Nat.reduceAdd, Nat.reduceEqDiff, Int.reduceEq]
                      have := kk false (.inr (by omega))
                      simp only [q1, q3] at this
                      exact this
                  · simp only [q1, q2, q3, beq_self_eq_true, beq_iff_eq, vv, reduceCtorEq, Nat.reduceAdd, Nat.reduceEqDiff]
                    have := kk false (.inr (by omega))
                    simp only [q1] at this
                    exact this
              · simp only [q1, beq_iff_eq, vv, reduceCtorEq, Nat.reduceAdd, Nat.reduceEqDiff]
                exact kk false (.inr (by omega))
            simp only [sndBox] at key2
            simp only [Snd.enc, Seg.enc, ret3, allX, wholeS, Span.enc, List.map_nil, List.map_cons, List.cons_append, List.nil_append] at g2 g3 g4 g5 g9
            simp only [vv, reduceCtorEq, Nat.reduceAdd, Nat.reduceEqDiff, g1, g2, g3, g4, bne_self_eq_false, w1, w2, J5_3, g5, nc0]
            by_cases q : s.st = 1
            · have := st0 q
              simp only [q, this] at key2 ⊢
              simp only [vv, reduceCtorEq, Nat.reduceAdd, Nat.reduceEqDiff, beq_self_eq_true, bne_self_eq_false]
              exact key2
            · have := st1 q
              subst this
              simp only [decide_true] at g9
              simp only [vv, reduceCtorEq, Nat.reduceAdd, Nat.reduceEqDiff, beq_iff_eq, bne_iff_ne, ne_eq, q, not_false_eq_true, g9]
              exact key2
      · refine (s10.and ((s15 s).and ((s16 x).and (s19 s)))).mono fun n g => ?_
        obtain ⟨g1, g2, g3, g4⟩ := g
        rw [hs] at g2
        rw [hx] at g3
        simp only [Snd.enc, Seg.enc] at g2 g3 g4
        simp only [vv, reduceCtorEq, Nat.reduceAdd, Nat.reduceEqDiff, g1, g2, g3, g4, bne_iff_ne, ne_eq, h1, not_false_eq_true, J5_3]
    · refine (s10.and ((s15 s).and (s16 x))).mono fun n g => ?_
      obtain ⟨g1, g2, g3⟩ := g
      rw [hs] at g2
      rw [hx] at g3
      simp only [Snd.enc, Seg.enc] at g2 g3
      simp only [vv, reduceCtorEq, Nat.reduceAdd, Nat.reduceEqDiff, g1, g2, g3, J5_3]
  · refine (s10.and (s15 s)).mono fun n g => ?_
    obtain ⟨g1, g2⟩ := g
    rw [hs] at g2
    simp only [Snd.enc] at g2
    simp only [vv, reduceCtorEq, Nat.reduceAdd, Nat.reduceEqDiff, g1, g2, J5_3]
end Ab

set_option linter.unusedVariables false
set_option linter.unusedSimpArgs false
namespace Ab
open Go
theorem minus_left {s p : Snd} (hs : FOk s) (hp : FOk p) (hd : p.data = s.data) (ha : ∀ t, memS t s.acked → memS t p.acked) : minusL (leftS p) (leftS s) = [] ∧ minusE (leftS p) (leftS s) = 0 := by
  have c1 := hp.left_chk
  have c2 := hs.left_chk
  obtain ⟨k1, k2⟩ := min_spec ((chkL_iff _).1 c1).2.1 ((chkL_iff _).1 c2).2.1
  have e : min_ (leftS p) (leftS s) = [] := by
    refine canon_unique k1 (b' := 0) trivial fun t => ?_
    rw [k2, hp.left_mem, hs.left_mem, hd]
    simp only [memS, iff_false]
    rintro ⟨⟨m1, m2⟩, m3⟩
    exact m3 ⟨m1, fun m => m2 (ha t m)⟩
  unfold minusL minusE
  simp [c1, c2, e]
theorem prog_ok (s p : Snd) (o : List Out) (z : Int) (hk : s.acked.length ≤ 100) (h : z ≠ 0 ∧ p = zeroS ∧ o = [] ∨ z = 0 ∧ chkS s = 0 ∧ Step s p o) :
    Ev fun n => J9_2 n s.c.frm s.c.dst s.c.start s.c.fin s.c.rate s.c.rng s.c.loss s.ses s.data s.fin s.busy s.ser (s.acked.map Span.enc) s.due s.st (([.t (.sl 9 (o.map Out.enc)), .t (tI z)], [sndBox p]) : List AV × Heap) = some [.bool true] := by
  rcases h with ⟨h1, rfl, rfl⟩ | ⟨rfl, h1, h⟩
  · refine (s10.and (same_snd zeroS (by simp [zeroS]))).mono fun n g => ?_
    obtain ⟨g1, g2⟩ := g
    simp only [Snd.enc, zeroS, List.map_nil, List.cons_append, List.nil_append] at g2
    simp only [J9_2, sndBox, zeroS, vv, reduceCtorEq, Nat.reduceAdd, Nat.reduceEqDiff, bne_iff_ne, ne_eq, h1, not_false_eq_true, List.map_nil, g2, nc0, beq_self_eq_true, g1]
  · have hF := fok_of h1 hk
    have hP : FOk p := ⟨(chkS_zero h.ok).1, by have := h.few; omega⟩
    have hn := hP.num
    have hn0 := hF.num
    obtain ⟨m1, m2⟩ := miss_ok h1
    obtain ⟨n1, n2⟩ := miss_ok h.ok
    have ta := s25 s
    have tb := s25 p
    have tc := s19 p
    rw [m1, m2] at ta
    rw [n1, n2] at tb
    rw [h.ok] at tc
    obtain ⟨q1, q2⟩ := minus_left hF hP h.data h.acc
    have td := s32 (leftS p) (leftS s)
    rw [minusP_eq, q1, q2] at td
    have hser := h.ser
    have hbusy := h.busy
    have t13 := s13 s p (by omega)
    refine (s10.and (ta.and (tb.and (tc.and (td.and t13))))).mono fun n g => ?_
    obtain ⟨g1, g2, g3, g4, g5, g6⟩ := g
    simp only [Snd.enc, List.map_nil, List.cons_append, List.nil_append] at g2 g3 g4 g5 g6
    have w : w64 (s.ser + 1) = s.ser + 1 := w64_id (by omega) (by omega)
    simp only [J9_2, sndBox, vv, reduceCtorEq, Nat.reduceAdd, Nat.reduceEqDiff, bne_self_eq_false, g2, g3, g4, g5, nc0, Int.lt_irrefl, (show ¬ p.ser < s.ser by omega), (show ¬ p.busy < s.busy by omega), (show ¬ p.fin < p.busy by omega), J9_1, w]
    by_cases k : o = []
    · subst k
      simp only [List.map_nil, vv, reduceCtorEq, Nat.reduceAdd, Nat.reduceEqDiff, nc0, beq_self_eq_true, g1, beq_iff_eq]
      by_cases k1 : s.st = 1
      · simp only [k1, vv, reduceCtorEq, Nat.reduceAdd, Nat.reduceEqDiff]
      · rcases h.still with q | ⟨_, q⟩
        · exact absurd q k1
        · subst q
          simp only [decide_true] at g6
          simp only [k1, g6, vv, reduceCtorEq, Nat.reduceAdd, Nat.reduceEqDiff]
    · have k1 : s.st = 1 := by
        rcases h.still with q | ⟨q, _⟩
        · exact q
        · exact absurd q k
      have k2 : p.ser = s.ser + 1 := by
        rcases h.next with q | q
        · exact absurd q k
        · exact q
      have hp := List.length_pos_iff.2 k
      simp only [k1, k2, beq_self_eq_true, vv, reduceCtorEq, Nat.reduceAdd, Nat.reduceEqDiff, beq_iff_eq, (show ¬ ((o.length : Int) = 0) by omega), g1]
theorem hear_prog {s : Snd} {t : Int} {x : Seg} (hs : s.acked.length ≤ 100) (hx : x.claims.length ≤ 100 ∨ 1000 < x.claims.length) : (hearF s t x).2.2 ≠ 0 ∧ (hearF s t x).1 = zeroS ∧ (hearF s t x).2.1 = [] ∨ (hearF s t x).2.2 = 0 ∧ chkS s = 0 ∧ Step s (hearF s t x).1 (hearF s t x).2.1 := by
  by_cases h : chkS s = 0 ∧ chkG x = 0 ∧ s.busy ≤ t ∧ t ≤ 2199023255552
  · have := hear_step h.1 hs h.2.1 hx h.2.2
    exact .inr ⟨this.1, h.1, this.2⟩
  · obtain ⟨z, hz, e⟩ := hear_err h
    rw [e]
    exact .inl ⟨hz, rfl, rfl⟩
theorem wait_prog {s : Snd} {t : Int} (hs : s.acked.length ≤ 100) : (waitF s t).2.2 ≠ 0 ∧ (waitF s t).1 = zeroS ∧ (waitF s t).2.1 = [] ∨ (waitF s t).2.2 = 0 ∧ chkS s = 0 ∧ Step s (waitF s t).1 (waitF s t).2.1 := by
  by_cases h : chkS s = 0 ∧ s.st = 1 ∧ s.due ≤ t ∧ t ≤ 2199023255552
  · have := wait_step h.1 hs h.2.1 h.2.2
    rw [this.1]
    exact .inr ⟨rfl, h.1, this.2⟩
  · obtain ⟨z, hz, e⟩ := wait_err h
    rw [e]
    exact .inl ⟨hz, rfl, rfl⟩
theorem law9 (s : Snd) (t : Int) (x : Seg) (tm : Bool) : Runs C 9 (s.enc ++ [tI t] ++ x.enc ++ [.bool tm]) [.bool true] := by
  refine Runs.of (fun n => e9 n _ _ _ _ _ _ _ _ _ _ _ _ _ _ _ _ _ _ _ _ _ _ _ _ _) ?_
  cases hs : greatS s
  · cases hx : greatG x
    · have b1 := great_no hs
      have b2 := greatG_no hx
      have hk : s.acked.length ≤ 100 := by omega
      have ka := prog_ok s _ _ _ hk (hear_prog (s := s) (t := t) (x := x) hk b2)
      have kb := prog_ok s _ _ _ hk (wait_prog (s := s) (t := t) hk)
      have t17 := s17 s t x hk b2
      have t26 := s26 s t hk
      generalize hearF s t x = r at t17 ka
      generalize waitF s t = r' at t26 kb
      obtain ⟨p, o, z⟩ := r
      obtain ⟨p', o', z'⟩ := r'
      refine ((s15 s).and ((s16 x).and (t17.and (t26.and (ka.and kb))))).mono fun n g => ?_
      obtain ⟨g2, g3, g4, g5, g6, g7⟩ := g
      rw [hs] at g2
      rw [hx] at g3
      simp only [Snd.enc, Seg.enc, ret3, sndBox, List.cons_append, List.nil_append] at g2 g3 g4 g5 g6 g7
      cases tm
      · simp only [vv, reduceCtorEq, Nat.reduceAdd, Nat.reduceEqDiff, g2, g3, g4, g5, J9_3]
        exact g6
      · simp only [vv, reduceCtorEq, Nat.reduceAdd, Nat.reduceEqDiff, g2, g3, g4, g5, J9_3]
        exact g7
    · refine (s10.and ((s15 s).and (s16 x))).mono fun n g => ?_
      obtain ⟨g1, g2, g3⟩ := g
      rw [hs] at g2
      rw [hx] at g3
      simp only [Snd.enc, Seg.enc] at g2 g3
      simp only [vv, reduceCtorEq, Nat.reduceAdd, Nat.reduceEqDiff, g1, g2, g3, J9_3]
  · refine (s10.and (s15 s)).mono fun n g => ?_
    obtain ⟨g1, g2⟩ := g
    rw [hs] at g2
    simp only [Snd.enc] at g2
    simp only [vv, reduceCtorEq, Nat.reduceAdd, Nat.reduceEqDiff, g1, g2, J9_3]
end Ab

set_option linter.unusedVariables false
set_option linter.unusedSimpArgs false
namespace Ab
open Go
theorem start_cases (c : Con) (ses : Int) (d : ByteArray) (b e : Int) : (∃ z, z ≠ 0 ∧ startF c ses d b e = errF z) ∨
    ((0 ≤ ses ∧ ses ≤ 1099511627776) ∧ (1 ≤ d.size ∧ d.size ≤ 65536) ∧ chkC c = 0 ∧ (c.start ≤ b ∧ b ≤ e ∧ e ≤ c.fin) ∧ Bat d ses 1 (batL ses 1 d (wholeS d)) ∧ endAt c.rate b (batL ses 1 d (wholeS d)) ≤ e ∧
      startF c ses d b e = (sentS (startS c ses d e) (endAt c.rate b (batL ses 1 d (wholeS d))) 1, outsF c.rate b (batL ses 1 d (wholeS d)), 0)) := by
  unfold startF
  by_cases h1 : chkC c ≠ 0
  · rw [if_pos h1]; exact .inl ⟨1, by omega, rfl⟩
  rw [if_neg h1]
  by_cases h2 : ¬ (0 ≤ ses ∧ ses ≤ 1099511627776)
  · rw [if_pos h2]; exact .inl ⟨2, by omega, rfl⟩
  rw [if_neg h2]
  by_cases h3 : d.size = 0
  · rw [if_pos h3]; exact .inl ⟨20, by omega, rfl⟩
  rw [if_neg h3]
  by_cases h4 : 65536 < d.size
  · rw [if_pos h4]; exact .inl ⟨4, by omega, rfl⟩
  rw [if_neg h4]
  by_cases h5 : b < c.start ∨ e < b ∨ c.fin < e
  · rw [if_pos h5]; exact .inl ⟨2, by omega, rfl⟩
  rw [if_neg h5]
  have hb := bat_form (start_bat (ses := ses) (d := d) (by omega) (by omega))
  rcases send_cases (s := startS c ses d e) (t := b) (.inr ⟨hb, by omega⟩) with ⟨e1, _⟩ | ⟨_, _, e0, e1⟩
  · refine .inl ⟨16, by omega, ?_⟩
    rw [e1]
    exact if_pos rfl
  · refine .inr ⟨by omega, by omega, by omega, by omega, hb, e0, ?_⟩
    rw [e1]
    exact if_neg (by simp only [sentS]; omega)
theorem start_ok {c : Con} {ses : Int} {d : ByteArray} {e t : Int} (h1 : 0 ≤ ses ∧ ses ≤ 1099511627776) (h2 : 1 ≤ d.size ∧ d.size ≤ 65536) (h3 : chkC c = 0) (h4 : c.start ≤ t ∧ t ≤ e ∧ e ≤ c.fin) : chkS (sentS (startS c ses d e) t 1) = 0 := by
  refine chkS_of ?_ ?_
  · unfold chkF
    have a1 : RngS (sentS (startS c ses d e) t 1) := by
      unfold RngS sentS startS
      simp only
      omega
    have a2 : AckS (sentS (startS c ses d e) t 1) := ⟨chk_nil, .inl rfl⟩
    have a0 : chkC (sentS (startS c ses d e) t 1).c = 0 := h3
    rw [if_neg (fun f => f a0), if_neg (fun f => f a1), if_neg (fun f => f a2)]
  · unfold fits
    refine decide_eq_true (.inl ⟨rfl, ?_, rfl⟩)
    unfold complete
    rw [decide_eq_false_iff_not]
    simp [sentS, startS, wholeS]
/-- Segments that are sent are those of a batch. -/
theorem loop12 (d : ByteArray) (after : Int) (cl : List (List Tree)) (p : Snd) (r t z y2 : Int) (l : List Seg) (hl : l.length ≤ 1000000) (hc : ∀ x ∈ l, x.claims = [])
    (hend : Ev fun n => ∀ again, L6_12 n (ret3 (p, outsF r t l, z)) [.sl 8 (l.map Seg.enc), tI y2] d cl after (([.t (tI (l.length : Int))], [.box []]) : List AV × Heap) again = some [.bool true]) :
    Ev fun n => loopIter (fun (q : List AV × Heap) again => L6_12 n (ret3 (p, outsF r t l, z)) [.sl 8 (l.map Seg.enc), tI y2] d cl after q again) n (([.t (tI 0)], [.box []]) : List AV × Heap) = some [.bool true] := by
  refine loop_at l (fun i => (([.t (tI i)], [.box []]) : List AV × Heap)) rfl (fun i x hx => ?_) hend
  have hi := lt_of_some hx
  have hO := outsF_len r l t
  have hG := outsF_get r l t i x hx
  have hcl := hc x (List.mem_of_getElem? hx)
  have t23 := s23 x x (by rw [hcl]; simp)
  simp only [decide_true] at t23
  refine t23.mono fun n y again => ?_
  simp only [Seg.enc, List.cons_append, List.nil_append] at y
  simp only [L6_12, ret3, Snd.enc, List.cons_append, List.nil_append, vv, reduceCtorEq, Nat.reduceAdd, Nat.reduceEqDiff, hO, hG, hx, Out.enc, Seg.enc, (show (i : Int) < (l.length : Int) by omega), y, w64_succ (show i < 4611686018427387904 by omega)]
theorem loop8 (p : Snd) (r t z y2 : Int) (l : List Seg) (hl : l.length ≤ 1000000) (hc : ∀ x ∈ l, x.claims = []) :
    Ev fun n => loopIter (fun (q : List AV × Heap) again => L6_8 n (ret3 (p, outsF r t l, z)) [.sl 8 (l.map Seg.enc), tI y2] q again) n (([.t (tI 0)], [.box [], .box [], .box []]) : List AV × Heap) = some [.bool true] := by
  refine loop_at l (fun i => (([.t (tI i)], [.box [], .box [], .box []]) : List AV × Heap)) rfl (fun i x hx => ?_) ?_
  · have hi := lt_of_some hx
    have hO := outsF_len r l t
    have hG := outsF_get r l t i x hx
    have hcl := hc x (List.mem_of_getElem? hx)
    have t23 := s23 x x (by rw [hcl]; simp)
    simp only [decide_true] at t23
    refine t23.mono fun n y again => ?_
    simp only [Seg.enc, List.cons_append, List.nil_append] at y
    simp only [L6_8, ret3, Snd.enc, List.cons_append, List.nil_append, vv, reduceCtorEq, Nat.reduceAdd, Nat.reduceEqDiff, hO, hG, hx, Out.enc, Seg.enc, (show (i : Int) < (l.length : Int) by omega), y, w64_succ (show i < 4611686018427387904 by omega)]
  · have hO := outsF_len r l t
    refine s10.mono fun n y again => ?_
    simp only [L6_8, ret3, Snd.enc, List.cons_append, List.nil_append, vv, reduceCtorEq, Nat.reduceAdd, Nat.reduceEqDiff, hO, Int.lt_irrefl, y]
/-- The answer to a report. -/
theorem part11 (s : Snd) (d : ByteArray) (o1 : List Out) (z1 after : Int) (x : Seg) (hs : chkS s = 0) (h1 : s.st = 1) (hses : s.ses = 3) (hser : s.ser = 1) (hdat : s.data = d) (hack : s.acked = []) (hg : chkG x = 0) (hx : x.claims.length ≤ 20) (hk : x.kind = 2) (hx1 : x.ses = 3) (hx2 : x.ser = 1) (hx3 : x.tot = d.size) (ha : s.busy ≤ after) :
    Ev fun n => J6_11 n (ret3 (s, o1, z1)) after (x.enc ++ [tI 0]) d (([.t (.bool false)], [.box [], .box []]) : List AV × Heap) = some [.bool true] := by
  have hk0 : s.acked.length ≤ 100 := by rw [hack]; simp
  have hF := fok_of hs hk0
  have hG := gok_of hg (.inl (by omega))
  have t17 := s17 s after x hk0 (.inl (by omega))
  by_cases hm : 2199023255552 < after
  · have e : hearF s after x = errF 2 := by
      unfold hearF
      rw [if_neg (by omega), if_pos (by omega)]
    rw [e] at t17
    refine (s10.and (t17.and (s25 zeroS))).mono fun n g => ?_
    obtain ⟨g1, g2, g3⟩ := g
    simp only [Snd.enc, Seg.enc, ret3, errF, zeroS, List.map_nil, List.cons_append, List.nil_append] at g2 g3
    simp only [J6_11, ret3, Snd.enc, Seg.enc, List.cons_append, List.nil_append, vv, reduceCtorEq, Nat.reduceAdd, Nat.reduceEqDiff, g2, g3, Int.reduceBNe, J6_10, hm, g1]
  · have h3 : s.busy ≤ after ∧ after ≤ 2199023255552 := by omega
    have hn := hF.num
    have hd := hF.dat
    rw [hdat] at hd
    have hrng := hF.rng
    have tpos : 0 ≤ after ∧ after ≤ 4398046511104 := by omega
    have hst := hear_step hs hk0 hg (.inl (by omega)) h3
    have hA := ackS_ok hF hk0 hG hk (by rw [hx3, hdat])
    have e0 : hearF s after x = ((repF s after x).1, (repF s after x).2, 0) := by
      unfold hearF
      rw [if_neg (by omega), if_neg (by omega), if_neg (by omega), if_neg (by omega)]
    rw [e0] at t17 hst
    have hst := hst.2
    have hAses : (ackS s x).ses = 3 := hses
    have hAser : (ackS s x).ser = 1 := hser
    have hAdat : (ackS s x).data = d := hdat
    by_cases hc : complete (ackS s x) = true
    · have e1 : repF s after x = ({ ackS s x with due := 0, st := 2 }, []) := by
        unfold repF
        rw [if_neg (by rw [hx2, hser, hx3, hdat]; omega), if_pos hc]
      rw [e1] at t17 hst
      have hl : leftS { ackS s x with due := 0, st := 2 } = [] := hA.left_nil.2 hc
      generalize hp : ({ ackS s x with due := 0, st := 2 } : Snd) = p at t17 hst hl
      have p1 : p.st = 2 := by rw [← hp]
      have p2 : p.ses = 3 := by rw [← hp]; exact hses
      have p3 : p.data = d := by rw [← hp]; exact hdat
      have hP : FOk p := ⟨(chkS_zero hst.ok).1, by have := hst.few; simp only at this; omega⟩
      obtain ⟨m1, m2⟩ := miss_ok hst.ok
      have t25 := s25 p
      rw [m1, m2, hl] at t25
      have t19 := s19 p
      rw [hst.ok] at t19
      have hpn := hP.num
      have hpr := hP.rng
      have t22 := s22 p d [] after (.inl rfl) hpn.1 hpn.2.2.2 hd (by omega) (by omega) tpos
      refine (s10.and (t17.and (t25.and ((s21 3 2 d []).and (t22.and t19))))).mono fun n g => ?_
      obtain ⟨g1, g2, g3, g4, g5, g6⟩ := g
      simp only [Snd.enc, Seg.enc, ret3, outsF, p1, List.map_nil, List.cons_append, List.nil_append] at g2 g3 g4 g5 g6
      simp only [J6_11, ret3, Snd.enc, Seg.enc, List.cons_append, List.nil_append, vv, reduceCtorEq, Nat.reduceAdd, Nat.reduceEqDiff, g2, g3, bne_self_eq_false, J6_10, List.map_nil, g4, g5, g6, nc0, beq_self_eq_true, J6_9, Int.reduceBNe, g1]
    · have hc : complete (ackS s x) = false := by simpa using hc
      have e1 : repF s after x = sendF (ackS s x) after (batchS (ackS s x)) := by
        unfold repF
        rw [if_neg (by rw [hx2, hser, hx3, hdat]; omega), if_neg (by rw [hc]; simp)]
      rw [e1] at t17 hst
      have hne : leftS (ackS s x) ≠ [] := fun f => by
        have := hA.left_nil.1 f
        rw [hc] at this
        cases this
      have hB : Bat (ackS s x).data (ackS s x).ses ((ackS s x).ser + 1) (batchS (ackS s x)) := by
        rcases hA.batch hc with ⟨q, _⟩ | ⟨_, q⟩
        · omega
        · exact q
      have hb0 : batE 3 2 d (leftS (ackS s x)) = 0 := by
        have := hA.bat hc (by omega)
        rw [hAses, hAser, hAdat] at this
        exact this
      have hb1 : batchS (ackS s x) = batL 3 2 d (leftS (ackS s x)) := by
        unfold batchS
        rw [hAses, hAser, hAdat]
        rfl
      rw [hb1] at hB t17 hst
      rw [hAdat, hAses, hAser] at hB
      have hB : Bat d 3 2 (batL 3 2 d (leftS (ackS s x))) := hB
      have t21 := s21 3 2 d (leftS (ackS s x))
      rw [hb0] at t21
      have hpos := List.length_pos_iff.2 hne
      have hll := chkL_len hA.left_chk
      rcases send_cases (s := ackS s x) (t := after) (d := d) (ser := 2) (l := batL 3 2 d (leftS (ackS s x))) (.inr ⟨by rw [hAses]; exact hB, by omega⟩) with ⟨q1, _⟩ | ⟨_, _, q2, q3⟩
      · rw [q1] at t17 hst
        have hl : leftS (failS (ackS s x)) = leftS (ackS s x) := rfl
        have p1 : (failS (ackS s x)).st = 3 := rfl
        generalize hp : failS (ackS s x) = p at t17 hst hl p1
        have hP : FOk p := ⟨(chkS_zero hst.ok).1, by have := hst.few; simp only at this; omega⟩
        obtain ⟨m1, m2⟩ := miss_ok hst.ok
        have t25 := s25 p
        rw [m1, m2, hl] at t25
        have t19 := s19 p
        rw [hst.ok] at t19
        have hpn := hP.num
        have hpr := hP.rng
        have t22 := s22 p d [] after (.inl rfl) hpn.1 hpn.2.2.2 hd (by omega) (by omega) tpos
        generalize leftS (ackS s x) = ll at t25 t21 hpos hll
        refine (s10.and (t17.and (t25.and (t21.and (t22.and t19))))).mono fun n g => ?_
        obtain ⟨g1, g2, g3, g4, g5, g6⟩ := g
        simp only [Snd.enc, Seg.enc, ret3, outsF, p1, List.map_nil, List.cons_append, List.nil_append] at g2 g3 g4 g5 g6
        simp only [J6_11, ret3, Snd.enc, Seg.enc, List.cons_append, List.nil_append, vv, reduceCtorEq, Nat.reduceAdd, Nat.reduceEqDiff, g2, g3, bne_self_eq_false, J6_10, g4, g5, g6, nc0, beq_self_eq_true, J6_9, Int.reduceBNe, g1, Int.reduceBEq, beq_false_of_ne (show (ll.length : Int) ≠ 0 by omega)]
      · rw [q3] at t17 hst
        have hl : leftS (sentS (ackS s x) (endAt (ackS s x).c.rate after (batL 3 2 d (leftS (ackS s x)))) 2) = leftS (ackS s x) := rfl
        have hP : FOk (sentS (ackS s x) (endAt (ackS s x).c.rate after (batL 3 2 d (leftS (ackS s x)))) 2) := ⟨(chkS_zero hst.ok).1, by have := hst.few; simp only at this; omega⟩
        have hpn := hP.num
        have hpr := hP.rng
        have t22 := s22 (sentS (ackS s x) (endAt (ackS s x).c.rate after (batL 3 2 d (leftS (ackS s x)))) 2) d (batL 3 2 d (leftS (ackS s x))) after (.inr ⟨by show Bat d s.ses 2 _; rw [hses]; exact hB, rfl, q2, rfl, rfl⟩) hpn.1 hpn.2.2.2 hd (by omega) (by omega) tpos
        have t8 := loop8 (sentS (ackS s x) (endAt (ackS s x).c.rate after (batL 3 2 d (leftS (ackS s x)))) 2) (ackS s x).c.rate after 0 0 (batL 3 2 d (leftS (ackS s x))) (by have := hB.len; omega) hB.claims
        have hO := outsF_len (ackS s x).c.rate (batL 3 2 d (leftS (ackS s x))) after
        have p1 : (sentS (ackS s x) (endAt (ackS s x).c.rate after (batL 3 2 d (leftS (ackS s x)))) 2).st = 1 := rfl
        have pc : (sentS (ackS s x) (endAt (ackS s x).c.rate after (batL 3 2 d (leftS (ackS s x)))) 2).c.rate = (ackS s x).c.rate := rfl
        rw [pc] at t22
        generalize sentS (ackS s x) (endAt (ackS s x).c.rate after (batL 3 2 d (leftS (ackS s x)))) 2 = p at t17 hst hl hP t22 t8 p1
        obtain ⟨m1, m2⟩ := miss_ok hst.ok
        have t25 := s25 p
        rw [m1, m2, hl] at t25
        have t19 := s19 p
        rw [hst.ok] at t19
        generalize hoo : outsF (ackS s x).c.rate after (batL 3 2 d (leftS (ackS s x))) = oo at t17 t22 t8 hO
        generalize batL 3 2 d (leftS (ackS s x)) = bb at t21 t8 hO
        generalize leftS (ackS s x) = ll at t25 t21 hpos hll
        refine (s10.and (t17.and (t25.and (t21.and (t22.and (t19.and t8)))))).mono fun n g => ?_
        obtain ⟨g1, g2, g3, g4, g5, g6, g7⟩ := g
        simp only [Snd.enc, Seg.enc, ret3, p1, List.cons_append, List.nil_append] at g2 g3 g4 g5 g6 g7
        simp only [J6_11, ret3, Snd.enc, Seg.enc, List.cons_append, List.nil_append, vv, reduceCtorEq, Nat.reduceAdd, Nat.reduceEqDiff, g2, g3, bne_self_eq_false, J6_10, g4, g5, g6, nc0, beq_self_eq_true, J6_9, Int.reduceBEq, beq_false_of_ne (show (ll.length : Int) ≠ 0 by omega), hO]
        exact g7
theorem law6 (c : Con) (d : ByteArray) (b e after : Int) (cl : List Span) : Runs C 6 (c.enc ++ [.str d, tI b, tI e, tI after, .sl 2 (cl.map Span.enc)]) [.bool true] := by
  refine Runs.of (fun n => e6 n _ _ _ _ _ _ _ _ _ _ _ _) ?_
  by_cases w1 : (200 : Int) < (d.size : Int)
  · refine s10.mono fun n g1 => ?_
    simp only [vv, reduceCtorEq, Nat.reduceAdd, Nat.reduceEqDiff, w1, J6_13, g1]
  · by_cases w2 : (20 : Int) < (cl.length : Int)
    · refine s10.mono fun n g1 => ?_
      simp only [vv, reduceCtorEq, Nat.reduceAdd, Nat.reduceEqDiff, w1, w2, J6_13, g1]
    · have t11 := s11 c 3 d b e
      rcases start_cases c 3 d b e with ⟨z, hz, e0⟩ | ⟨h1, h2, h3, h4, h5, h6, e0⟩
      · rw [e0] at t11
        refine (s10.and t11).mono fun n g => ?_
        obtain ⟨g1, g2⟩ := g
        simp only [Con.enc, Snd.enc, ret3, errF, zeroS, List.map_nil, List.cons_append, List.nil_append] at g2
        simp only [vv, reduceCtorEq, Nat.reduceAdd, Nat.reduceEqDiff, w1, w2, J6_13, g1, g2, bne_iff_ne, ne_eq, hz, not_false_eq_true, nc0, beq_self_eq_true]
      · obtain ⟨c1, c2⟩ := chkC_zero h3
        unfold ConOk at c1
        have hE := endAt_le c.rate (batL 3 1 d (wholeS d)) b
        have hok := start_ok (e := e) (t := endAt c.rate b (batL 3 1 d (wholeS d))) h1 h2 h3 (by omega)
        rw [e0] at t11
        have t19 := s19 (sentS (startS c 3 d e) (endAt c.rate b (batL 3 1 d (wholeS d))) 1)
        rw [hok] at t19
        have t22 := s22 (sentS (startS c 3 d e) (endAt c.rate b (batL 3 1 d (wholeS d))) 1) d (batL 3 1 d (wholeS d)) b (.inr ⟨h5, rfl, h6, rfl, rfl⟩) h1 (by simp only [sentS]; omega) h2 (by simp only [sentS, startS]; omega) (by simp only [sentS, startS]; omega) (by omega)
        have t21 := s21 3 1 d (wholeS d)
        rw [start_bat h1 h2] at t21
        have t11' : Runs C 11 (c.enc ++ [tI 3, .str d, tI b, tI e]) (ret3 (sentS (startS c 3 d e) (endAt c.rate b (batL 3 1 d (wholeS d))) 1, outsF c.rate b (batL 3 1 d (wholeS d)), 0)) := t11
        have hcl := h5.claims
        have hlen := h5.len
        have hO := outsF_len c.rate (batL 3 1 d (wholeS d)) b
        have key : Ev fun n => ∀ again, L6_12 n (ret3 (sentS (startS c 3 d e) (endAt c.rate b (batL 3 1 d (wholeS d))) 1, outsF c.rate b (batL 3 1 d (wholeS d)), 0)) [.sl 8 ((batL 3 1 d (wholeS d)).map Seg.enc), tI 0] d (cl.map Span.enc) after (([.t (tI ((batL 3 1 d (wholeS d)).length : Int))], [.box []]) : List AV × Heap) again = some [.bool true] := by
          have t24 := s24 3 1 d.size cl
          by_cases hx : chkG ⟨2, 3, 1, 0, d.size, false, ByteArray.mk #[], cl⟩ = 0
          · rw [if_pos hx] at t24
            by_cases hb : after < endAt c.rate b (batL 3 1 d (wholeS d))
            · refine (s10.and t24).mono fun n g again => ?_
              obtain ⟨g1, g2⟩ := g
              simp only [Seg.enc, List.cons_append, List.nil_append] at g2
              simp only [L6_12, ret3, sentS, startS, Snd.enc, List.cons_append, List.nil_append, vv, reduceCtorEq, Nat.reduceAdd, Nat.reduceEqDiff, hO, Int.lt_irrefl, g2, bne_self_eq_false, hb, J6_11, g1]
            · have k := part11 (sentS (startS c 3 d e) (endAt c.rate b (batL 3 1 d (wholeS d))) 1) d (outsF c.rate b (batL 3 1 d (wholeS d))) 0 after ⟨2, 3, 1, 0, d.size, false, ByteArray.mk #[], cl⟩ hok rfl rfl rfl rfl rfl hx (by simp only; omega) rfl rfl rfl rfl (by simp only [sentS]; omega)
              refine (t24.and k).mono fun n g again => ?_
              obtain ⟨g2, g3⟩ := g
              simp only [Seg.enc, ret3, sentS, startS, Snd.enc, List.cons_append, List.nil_append] at g2 g3
              simp only [L6_12, ret3, sentS, startS, Snd.enc, List.cons_append, List.nil_append, vv, reduceCtorEq, Nat.reduceAdd, Nat.reduceEqDiff, hO, Int.lt_irrefl, g2, bne_self_eq_false, hb]
              exact g3
          · rw [if_neg hx] at t24
            refine (s10.and t24).mono fun n g again => ?_
            obtain ⟨g1, g2⟩ := g
            simp only [Seg.enc, List.cons_append, List.nil_append] at g2
            simp only [L6_12, ret3, sentS, startS, Snd.enc, List.cons_append, List.nil_append, vv, reduceCtorEq, Nat.reduceAdd, Nat.reduceEqDiff, hO, Int.lt_irrefl, g2, bne_iff_ne, ne_eq, hx, not_false_eq_true, J6_11, g1]
        have t12 := loop12 d after (cl.map Span.enc) (sentS (startS c 3 d e) (endAt c.rate b (batL 3 1 d (wholeS d))) 1) c.rate b 0 0 (batL 3 1 d (wholeS d)) (by omega) hcl key
        have pc : (sentS (startS c 3 d e) (endAt c.rate b (batL 3 1 d (wholeS d))) 1).c.rate = c.rate := rfl
        rw [pc] at t22
        generalize sentS (startS c 3 d e) (endAt c.rate b (batL 3 1 d (wholeS d))) 1 = p at t11' t19 t22 t12
        generalize outsF c.rate b (batL 3 1 d (wholeS d)) = oo at t11' t22 t12 hO
        generalize hbb : batL 3 1 d (wholeS d) = bb at t21 t12 hO
        refine (t11'.and (t19.and (t22.and (t21.and t12)))).mono fun n g => ?_
        obtain ⟨g1, g2, g3, g4, g5⟩ := g
        simp only [Con.enc, Snd.enc, wholeS, Span.enc, ret3, List.map_cons, List.map_nil, List.cons_append, List.nil_append] at g1 g2 g3 g4 g5
        simp only [vv, reduceCtorEq, Nat.reduceAdd, Nat.reduceEqDiff, w1, w2, J6_13, g1, g2, g3, g4, bne_self_eq_false, hO]
        exact g5
end Ab
