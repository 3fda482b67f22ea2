/- Parts of the proof: see the last text. -/
import Derived.Test.YtdgkjmcggiihgaaSeT2
import Derived.Test.YtdgkjmcggiihgaaSeExt
set_option linter.unusedVariables false
set_option linter.unusedSimpArgs false
namespace Ab
open Go Go.Proofs
def D40 : ByteArray := ⟨(Go.Lib.repeatL [97] 40).toArray⟩
theorem d40_size : D40.size = 40 := by kernel_rfl
theorem s58 : Runs C 58 [.str (ByteArray.mk #[97]), tI 40] [.str D40] := Runs.of (g := fun _ => some [.str D40]) (fun n => by kernel_rfl) (Ev.of fun _ => rfl)
def C8 : Con := ⟨0, 1, 0, 100, 8, 5, 0⟩
theorem s33 : Runs C 33 [] (C8.enc ++ [.str D40]) := by
  refine Runs.of (fun n => e33 n) (s58.mono fun n h => ?_)
  simp only [h, vv, reduceCtorEq, Nat.reduceAdd, Nat.reduceEqDiff]
  rfl
theorem cut40 : cut 0 40 = [(0, 16), (16, 32), (32, 40)] := by
  rw [cut_pos (by omega), show cutE 0 40 = 16 by decide, cut_pos (by omega), show cutE 16 40 = 32 by decide, cut_pos (by omega), show cutE 32 40 = 40 by decide, cut_neg (by omega)]
theorem cut32 : cut 16 32 = [(16, 32)] := by
  rw [cut_pos (by omega), show cutE 16 32 = 32 by decide, cut_neg (by omega)]
def dp (i j : Int) : Seg := raw D40 7 (i, j)
def mk_ (n : Int) (x : Seg) : Seg := { x with ser := n, chk := true }
theorem bat40 : batL 7 1 D40 (wholeS D40) = [dp 0 16, dp 16 32, mk_ 1 (dp 32 40)] := by
  have h := start_bat (ses := 7) (d := D40) (by omega) (by rw [d40_size]; omega)
  unfold batL
  rw [if_pos h]
  have : raws D40 7 (wholeS D40) = [dp 0 16, dp 16 32] ++ [dp 32 40] := by
    unfold raws wholeS
    rw [d40_size]
    simp only [List.flatMap_cons, List.flatMap_nil, List.append_nil]
    rw [show ((40 : Nat) : Int) = 40 from rfl, cut40]
    rfl
  rw [this, mark_concat]
  rfl
theorem t1 : ticks 8 (dp 0 16) = 3 := by kernel_rfl
theorem t2 : ticks 8 (dp 16 32) = 3 := by kernel_rfl
theorem t3 : ticks 8 (mk_ 1 (dp 32 40)) = 2 := by kernel_rfl
theorem t4 : ticks 8 (mk_ 2 (dp 16 32)) = 3 := by kernel_rfl
def S40 : Snd := ⟨C8, 7, D40, 100, 8, 1, [], 19, 1⟩
theorem start40 : startF C8 7 D40 0 100 = (S40, [⟨3, dp 0 16⟩, ⟨6, dp 16 32⟩, ⟨8, mk_ 1 (dp 32 40)⟩], 0) := by
  have e : sendF (startS C8 7 D40 100) 0 (batL 7 1 D40 (wholeS D40)) = (S40, [⟨3, dp 0 16⟩, ⟨6, dp 16 32⟩, ⟨8, mk_ 1 (dp 32 40)⟩]) := by
    rw [bat40]
    unfold sendF
    simp only [List.getLast?_cons_cons, List.getLast?_singleton, startS]
    simp only [endAt, outsF, show C8.rate = 8 from rfl, t1, t2, t3]
    rfl
  unfold startF
  rw [e, if_neg (by decide), if_neg (by omega), if_neg (by rw [d40_size]; omega), if_neg (by rw [d40_size]; omega), if_neg (by decide), if_neg (by decide)]
def X40 : Seg := ⟨2, 7, 1, 0, 40, false, ByteArray.mk #[], [⟨0, 16⟩, ⟨32, 40⟩]⟩
theorem uni_nil {l : List Span} (h : chkL l = 0) : uni [] l = l := by
  obtain ⟨k1, k2⟩ := uni_spec ((chkL_iff _).1 chk_nil).2.1 ((chkL_iff _).1 h).2.1
  exact canon_unique k1 ((chkL_iff _).1 h).2.1 fun t => by rw [k2]; simp [memS]
def A40 : Snd := ⟨C8, 7, D40, 100, 8, 1, [⟨0, 16⟩, ⟨32, 40⟩], 19, 1⟩
theorem ack40 : ackS S40 X40 = A40 := by
  unfold ackS
  rw [show S40.acked = [] from rfl, uni_nil (by decide)]
  rfl
theorem left40 : leftS A40 = [⟨16, 32⟩] := by
  have hd : 1 ≤ A40.data.size ∧ A40.data.size ≤ 65536 := by rw [show A40.data = D40 from rfl, d40_size]; omega
  have hw : Within A40.acked A40.data.size := by
    rw [show A40.data = D40 from rfl, d40_size]
    intro x hx
    simp only [A40, List.mem_cons, List.not_mem_nil, or_false] at hx
    rcases hx with rfl | rfl <;> simp
  rw [left_eq hd (by decide) (by decide)]
  obtain ⟨k1, k2, k3⟩ := left_spec hd (a := A40.acked) (by decide) hw
  refine canon_unique k1 (b' := 0) ⟨by decide, by decide, trivial⟩ fun t => ?_
  rw [k3, show A40.data = D40 from rfl, d40_size]
  simp only [A40, memS, or_false]
  omega
theorem batch40 : batchS A40 = [mk_ 2 (dp 16 32)] := by
  have h : batE 7 2 D40 [⟨16, 32⟩] = 0 := batE_zero (by omega) (by omega) (by rw [d40_size]; omega) (by rw [d40_size]; decide) (by simp)
  have e : batchS A40 = batL 7 2 D40 [⟨16, 32⟩] := by
    unfold batchS
    rw [left40]
    rfl
  rw [e]
  unfold batL
  rw [if_pos h]
  have : raws D40 7 [⟨16, 32⟩] = [] ++ [dp 16 32] := by
    unfold raws
    simp only [List.flatMap_cons, List.flatMap_nil, List.append_nil, cut32]
    rfl
  rw [this, mark_concat]
  rfl
theorem hear40 : hearF S40 18 X40 = (sentS A40 21 2, [⟨21, mk_ 2 (dp 16 32)⟩], 0) := by
  have e : sendF A40 18 (batchS A40) = (sentS A40 21 2, [⟨21, mk_ 2 (dp 16 32)⟩]) := by
    rw [batch40]
    unfold sendF
    simp only [List.getLast?_singleton]
    simp only [endAt, outsF, show A40.c.rate = 8 from rfl, t4]
    rfl
  have r : repF S40 18 X40 = (sentS A40 21 2, [⟨21, mk_ 2 (dp 16 32)⟩]) := by
    unfold repF
    rw [ack40, if_neg (by decide), if_neg (by decide), e]
  unfold hearF
  rw [r, if_neg (by decide), if_neg (by decide), if_neg (by decide), if_neg (by decide)]
theorem s10 : Runs C 10 [] [.bool true] := by
  refine Runs.of (fun n => e10 n) ?_
  have a := s11 C8 7 D40 0 100
  rw [start40] at a
  have b := s17 S40 18 X40 (by decide) (.inl (by decide))
  rw [hear40] at b
  refine (s33.and (a.and b)).mono fun n h => ?_
  obtain ⟨h1, h2, h3⟩ := h
  simp only [C8, Con.enc, S40, X40, ret3, Snd.enc, Seg.enc, List.map_nil, List.map_cons, Span.enc, List.cons_append, List.nil_append, Out.enc] at h1 h2 h3
  simp only [h1, h2, vv, reduceCtorEq, Nat.reduceAdd, Nat.reduceEqDiff, J10_1, Int.reduceBNe, nc3, List.getElem?_cons_zero, List.getElem?_cons_succ, Int.reduceBEq, bne_self_eq_false, h3, beq_self_eq_true, nc1]
  simp [cnd_eq, sentS, mk_, dp, raw, vv, reduceCtorEq, Nat.reduceAdd, Nat.reduceEqDiff]
end Ab

set_option linter.unusedVariables false
set_option linter.unusedSimpArgs false
namespace Ab
open Go
theorem Bat.lastOf {d : ByteArray} {ses ser : Int} {l : List Seg} (h : Bat d ses ser l) : Bat d ses ser (lastOf l) := by
  obtain ⟨pre, x, rfl, h1, h2⟩ := h.ex
  rw [lastOf_concat]
  exact ⟨⟨[], x, rfl, h1, fun y hy => by cases hy⟩, by simp; omega⟩
theorem Bat.ne {d : ByteArray} {ses ser : Int} {l : List Seg} (h : Bat d ses ser l) : l ≠ [] := by
  obtain ⟨pre, x, rfl, h1, h2⟩ := h.ex
  simp
theorem Bat.claims {d : ByteArray} {ses ser : Int} {l : List Seg} (h : Bat d ses ser l) : ∀ x ∈ l, x.claims = [] := by
  obtain ⟨pre, x, rfl, h1, h2⟩ := h.ex
  intro y hy
  rcases List.mem_append.1 hy with hy | hy
  · exact (h2 y hy).cl
  · rw [List.mem_singleton] at hy
    subst hy
    exact h1.cl
theorem Bat.good {d : ByteArray} {ses ser : Int} {l : List Seg} (h : Bat d ses ser l) (hs : 0 ≤ ses ∧ ses ≤ 1099511627776) (hr : 1 ≤ ser ∧ ser ≤ 1099511627776) (hd : 1 ≤ d.size ∧ d.size ≤ 65536) {i : Nat} {y : Seg} (hy : l[i]? = some y) :
    chkG y = 0 ∧ y.ses = ses ∧ (y.chk = decide (i = l.length - 1)) ∧ (y.chk = true → y.ser = ser) := by
  obtain ⟨pre, x, rfl, h1, h2⟩ := h.ex
  have hi := lt_of_some hy
  simp only [List.length_append, List.length_cons, List.length_nil] at hi ⊢
  by_cases hp : i < pre.length
  · rw [List.getElem?_append_left hp] at hy
    have hm := h2 y (List.mem_of_getElem? hy)
    refine ⟨piece_ok hm hs hd, hm.ses_, ?_, fun hc => ?_⟩
    · rw [hm.chk]
      symm
      rw [decide_eq_false_iff_not]
      omega
    · rw [hm.chk] at hc
      cases hc
  · have e : i = pre.length := by omega
    subst e
    rw [List.getElem?_append_right (Nat.le_refl _)] at hy
    simp only [Nat.sub_self, List.getElem?_cons_zero, Option.some.injEq] at hy
    subst hy
    refine ⟨mark_ok h1 hs hr hd, h1.ses_, ?_, fun _ => rfl⟩
    simp
theorem outsF_get (r : Int) : ∀ (l : List Seg) (t : Int) (i : Nat) (y : Seg), l[i]? = some y → (outsF r t l)[i]? = some ⟨endAt r t (l.take i) + ticks r y, y⟩
  | [], t, i, y, h => by simp at h
  | x :: l, t, 0, y, h => by
    simp only [List.getElem?_cons_zero, Option.some.injEq] at h
    subst h
    rfl
  | x :: l, t, i + 1, y, h => by
    rw [List.getElem?_cons_succ] at h
    have := outsF_get r l (t + ticks r x) i y h
    simp only [outsF, List.getElem?_cons_succ, this, List.take_succ_cons, endAt]
theorem outsF_seg (r : Int) : ∀ (l : List Seg) (t : Int), (outsF r t l).map Out.seg = l
  | [], t => rfl
  | x :: l, t => by simp only [outsF, List.map_cons, outsF_seg r l]
def FewO (o : List Out) : Prop := o.length ≤ 1000000 ∧ ∀ x ∈ o, x.seg.claims.length ≤ 1000000
theorem few_nil : FewO [] := ⟨by simp, fun x hx => by cases hx⟩
theorem few_outs {d : ByteArray} {ses ser r t : Int} {l : List Seg} (h : Bat d ses ser l) (hd : d.size ≤ 65536) : FewO (outsF r t l) := by
  refine ⟨?_, fun x hx => ?_⟩
  · have := h.len
    rw [outsF_len]
    omega
  · have : x.seg ∈ l := by
      rw [← outsF_seg r l t]
      exact List.mem_map_of_mem hx
    rw [h.claims _ this]
    simp
theorem send_cases {s : Snd} {t ser : Int} {d : ByteArray} {l : List Seg} (h : l = [] ∨ Bat d s.ses ser l ∧ ser ≤ 1099511627776) :
    (sendF s t l = (failS s, []) ∧ (l = [] ∨ s.fin < endAt s.c.rate t l)) ∨ (Bat d s.ses ser l ∧ ser ≤ 1099511627776 ∧ endAt s.c.rate t l ≤ s.fin ∧ sendF s t l = (sentS s (endAt s.c.rate t l) ser, outsF s.c.rate t l)) := by
  rcases h with rfl | ⟨h, hs⟩
  · exact .inl ⟨rfl, .inl rfl⟩
  · obtain ⟨x, hx, hxs, hn⟩ := h.last
    by_cases hq : s.fin < endAt s.c.rate t l
    · refine .inl ⟨?_, .inr hq⟩
      unfold sendF
      rw [hx]
      simp [hq]
    · refine .inr ⟨h, hs, by omega, ?_⟩
      unfold sendF
      rw [hx]
      simp [hq, hxs, (show ¬ 1099511627776 < ser by omega)]
/-! ### validity -/
theorem chkS_of {s : Snd} (h : chkF s = 0) (hf : fits s = true) : chkS s = 0 := by
  unfold chkS
  rw [if_neg (fun f => f h), if_pos hf]
theorem fail_ok {s : Snd} (h : chkF s = 0) : chkS (failS s) = 0 := by
  refine chkS_of h ?_
  unfold fits failS
  simp
theorem sent_ok {s : Snd} {t ser : Int} (h : chkF s = 0) (hc : complete s = false) (ht : s.c.start ≤ t ∧ t ≤ s.fin) (hr : 1 ≤ ser ∧ ser ≤ 1099511627776) : chkS (sentS s t ser) = 0 := by
  refine chkS_of ?_ ?_
  · obtain ⟨c1, c2, c3⟩ := chkF_zero h
    unfold RngS at c2
    have a1 : RngS (sentS s t ser) := by
      unfold RngS sentS
      simp only
      omega
    have a2 : AckS (sentS s t ser) := c3
    have a0 : chkC (sentS s t ser).c = 0 := c1
    unfold chkF
    rw [if_neg (fun f => f a0), if_neg (fun f => f a1), if_neg (fun f => f a2)]
  · unfold fits
    refine decide_eq_true (.inl ⟨rfl, hc, rfl⟩)
theorem done_ok {s : Snd} (h : chkF s = 0) (hc : complete s = true) : chkS { s with due := 0, st := 2 } = 0 := by
  refine chkS_of h ?_
  unfold fits
  exact decide_eq_true (.inr (.inl ⟨rfl, hc, rfl⟩))
/-- What a step keeps. -/
structure Step (s p : Snd) (o : List Out) : Prop where
  ok : chkS p = 0
  few : p.acked.length ≤ s.acked.length + 100
  data : p.data = s.data
  acc : ∀ t, memS t s.acked → memS t p.acked
  ser : s.ser ≤ p.ser
  busy : s.busy ≤ p.busy
  still : s.st = 1 ∨ o = [] ∧ p = s
  next : o = [] ∨ p.ser = s.ser + 1
  fewO : FewO o
theorem step_send {s q : Snd} {t : Int} {l : List Seg} (h : FOk q) (hc : complete q = false) (h0 : s.st = 1) (h1 : q.c = s.c) (h2 : q.data = s.data) (h3 : q.fin = s.fin) (h4 : q.ser = s.ser) (h5 : q.busy = s.busy) (h6 : q.acked.length ≤ s.acked.length + 100) (h7 : ∀ t, memS t s.acked → memS t q.acked) (ht : s.busy ≤ t)
    (hl : l = [] ∨ Bat q.data q.ses (q.ser + 1) l ∧ q.ser + 1 ≤ 1099511627776) : Step s (sendF q t l).1 (sendF q t l).2 := by
  have hn := h.num
  rcases send_cases (t := t) hl with ⟨e, _⟩ | ⟨hb, hs, he, e⟩
  · rw [e]
    exact ⟨fail_ok h.f, h6, h2, h7, by simp only [failS]; omega, by simp only [failS]; omega, .inl h0, .inl rfl, few_nil⟩
  · rw [e]
    have hE := endAt_le q.c.rate l t
    refine ⟨sent_ok h.f hc (by omega) (by omega), h6, h2, h7, by simp only [sentS]; omega, by simp only [sentS]; omega, .inl h0, .inr (by simp only [sentS]; omega), few_outs hb h.dat.2⟩
theorem step_same {s : Snd} (h : chkS s = 0) : Step s s [] := ⟨h, by omega, rfl, fun _ m => m, Int.le_refl _, Int.le_refl _, .inr ⟨rfl, rfl⟩, .inl rfl, few_nil⟩
theorem wait_step {s : Snd} {t : Int} (h1 : chkS s = 0) (hs : s.acked.length ≤ 100) (h4 : s.st = 1) (h3 : s.due ≤ t ∧ t ≤ 2199023255552) : waitF s t = ((sendF s t (lastOf (batchS s))).1, (sendF s t (lastOf (batchS s))).2, 0) ∧ Step s (sendF s t (lastOf (batchS s))).1 (sendF s t (lastOf (batchS s))).2 := by
  have hF := fok_of h1 hs
  obtain ⟨hc, hd⟩ := fits_wait h1 h4
  have hr := hF.rng
  refine ⟨by unfold waitF; rw [if_neg (by omega), if_neg (by omega), if_neg (by omega)], ?_⟩
  refine step_send hF hc h4 rfl rfl rfl rfl rfl (by omega) (fun _ m => m) (by omega) ?_
  rcases hF.batch hc with ⟨b1, b2⟩ | ⟨b1, b2⟩
  · rw [b2]; exact .inl rfl
  · exact .inr ⟨b2.lastOf, by omega⟩
theorem rep_step {s : Snd} {t : Int} {x : Seg} (h1 : chkS s = 0) (hs : s.acked.length ≤ 100) (g : GOk x) (hk : x.kind = 2) (h4 : s.st = 1) (h3 : s.busy ≤ t) : Step s (repF s t x).1 (repF s t x).2 := by
  have hF := fok_of h1 hs
  unfold repF
  by_cases hq : x.ser ≠ s.ser ∨ x.tot ≠ s.data.size
  · rw [if_pos hq]
    exact step_same h1
  · rw [if_neg hq]
    have hA := ackS_ok hF hs g hk (by omega)
    obtain ⟨k1, k2⟩ := g.cl hk
    rw [show x.tot = (s.data.size : Int) by omega] at k2
    have hdat := hF.dat
    have hcl := g.few
    obtain ⟨u1, u2, u3⟩ := uni_ok hF.ack k1 hF.win k2 (by omega) (by omega)
    have hacc : ∀ t, memS t s.acked → memS t (ackS s x).acked := fun t m => (u3 t).2 (.inl m)
    have hlen : (ackS s x).acked.length ≤ s.acked.length + 100 := by
      have := uni_len hF.ack k1
      have e : (ackS s x).acked = uni s.acked x.claims := rfl
      rw [e]
      omega
    by_cases hc : complete (ackS s x) = true
    · rw [if_pos hc]
      exact ⟨done_ok hA.f hc, hlen, rfl, hacc, Int.le_refl _, Int.le_refl _, .inl h4, .inl rfl, few_nil⟩
    · rw [if_neg hc]
      have hc : complete (ackS s x) = false := by simpa using hc
      refine step_send hA hc h4 rfl rfl rfl rfl rfl hlen hacc h3 ?_
      rcases hA.batch hc with ⟨b1, b2⟩ | ⟨b1, b2⟩
      · exact .inl b2
      · exact .inr ⟨b2, by omega⟩
theorem hear_step {s : Snd} {t : Int} {x : Seg} (h1 : chkS s = 0) (hs : s.acked.length ≤ 100) (h2 : chkG x = 0) (hx : x.claims.length ≤ 100 ∨ 1000 < x.claims.length) (h3 : s.busy ≤ t ∧ t ≤ 2199023255552) : (hearF s t x).2.2 = 0 ∧ Step s (hearF s t x).1 (hearF s t x).2.1 := by
  have hG := gok_of h2 hx
  unfold hearF
  rw [if_neg (by omega), if_neg (by omega)]
  by_cases q1 : s.st ≠ 1 ∨ x.ses ≠ s.ses ∨ x.kind = 1
  · rw [if_pos q1]
    exact ⟨rfl, step_same h1⟩
  · rw [if_neg q1]
    by_cases q2 : x.kind = 3
    · rw [if_pos q2]
      exact ⟨rfl, fail_ok (chkS_zero h1).1, by simp only [failS]; omega, rfl, fun _ m => m, Int.le_refl _, Int.le_refl _, .inl (by omega), .inl rfl, few_nil⟩
    · rw [if_neg q2]
      have := (chkG_zero h2).1
      exact ⟨rfl, rep_step h1 hs hG (by omega) (by omega) h3.1⟩
theorem hear_err {s : Snd} {t : Int} {x : Seg} (h : ¬ (chkS s = 0 ∧ chkG x = 0 ∧ s.busy ≤ t ∧ t ≤ 2199023255552)) : ∃ e, e ≠ 0 ∧ hearF s t x = errF e := by
  unfold hearF
  by_cases q : chkS s ≠ 0 ∨ chkG x ≠ 0
  · exact ⟨1, by omega, by rw [if_pos q]⟩
  · exact ⟨2, by omega, by rw [if_neg q, if_pos (by omega)]⟩
theorem wait_err {s : Snd} {t : Int} (h : ¬ (chkS s = 0 ∧ s.st = 1 ∧ s.due ≤ t ∧ t ≤ 2199023255552)) : ∃ e, e ≠ 0 ∧ waitF s t = errF e := by
  unfold waitF
  by_cases q : chkS s ≠ 0
  · exact ⟨1, by omega, by rw [if_pos q]⟩
  · by_cases q2 : s.st ≠ 1
    · exact ⟨19, by omega, by rw [if_neg q, if_pos q2]⟩
    · exact ⟨2, by omega, by rw [if_neg q, if_neg q2, if_pos (by omega)]⟩
end Ab

set_option linter.unusedVariables false
set_option linter.unusedSimpArgs false
namespace Ab
open Go
theorem same_snd (p : Snd) (h : p.acked.length ≤ 1000000) : Runs C 13 (p.enc ++ p.enc) [.bool true] := by
  have := s13 p p h
  simpa using this
theorem same_out (o : List Out) (h : FewO o) : Runs C 14 [.sl 9 (o.map Out.enc), .sl 9 (o.map Out.enc)] [.bool true] := by
  have := s14 o o h.1 h.2
  simpa using this
theorem great_no {s : Snd} (h : greatS s = false) : s.data.size ≤ 200 ∧ s.acked.length ≤ 30 := by
  unfold greatS at h
  have := of_decide_eq_false h
  omega
theorem greatG_no {x : Seg} (h : greatG x = false) : x.claims.length ≤ 100 ∨ 1000 < x.claims.length := by
  unfold greatG at h
  have := of_decide_eq_false h
  omega
theorem start_few (c : Con) (ses : Int) (d : ByteArray) (b e : Int) : (startF c ses d b e).1.acked = [] ∧ FewO (startF c ses d b e).2.1 := by
  unfold startF
  by_cases h1 : chkC c ≠ 0
  · rw [if_pos h1]; exact ⟨rfl, few_nil⟩
  rw [if_neg h1]
  by_cases h2 : ¬ (0 ≤ ses ∧ ses ≤ 1099511627776)
  · rw [if_pos h2]; exact ⟨rfl, few_nil⟩
  rw [if_neg h2]
  by_cases h3 : d.size = 0
  · rw [if_pos h3]; exact ⟨rfl, few_nil⟩
  rw [if_neg h3]
  by_cases h4 : 65536 < d.size
  · rw [if_pos h4]; exact ⟨rfl, few_nil⟩
  rw [if_neg h4]
  by_cases h5 : b < c.start ∨ e < b ∨ c.fin < e
  · rw [if_pos h5]; exact ⟨rfl, few_nil⟩
  rw [if_neg h5]
  have hb := bat_form (start_bat (ses := ses) (d := d) (by omega) (by omega))
  rcases send_cases (s := startS c ses d e) (t := b) (.inr ⟨hb, by omega⟩) with ⟨e1, _⟩ | ⟨_, _, _, e1⟩
  · rw [e1]
    by_cases h6 : (failS (startS c ses d e), ([] : List Out)).1.st = 3
    · rw [if_pos h6]; exact ⟨rfl, few_nil⟩
    · rw [if_neg h6]; exact ⟨rfl, few_nil⟩
  · rw [e1]
    rw [if_neg (by simp only [sentS]; omega)]
    exact ⟨rfl, few_outs hb (by omega)⟩
theorem hear_few {s : Snd} {t : Int} {x : Seg} (hs : s.acked.length ≤ 100) (hx : x.claims.length ≤ 100 ∨ 1000 < x.claims.length) : (hearF s t x).1.acked.length ≤ 1000000 ∧ FewO (hearF s t x).2.1 := by
  by_cases h : chkS s = 0 ∧ chkG x = 0 ∧ s.busy ≤ t ∧ t ≤ 2199023255552
  · obtain ⟨_, k⟩ := hear_step h.1 hs h.2.1 hx h.2.2
    exact ⟨by have := k.few; omega, k.fewO⟩
  · obtain ⟨e, _, k⟩ := hear_err h
    rw [k]
    exact ⟨by simp [errF, zeroS], few_nil⟩
theorem wait_few {s : Snd} {t : Int} (hs : s.acked.length ≤ 100) : (waitF s t).1.acked.length ≤ 1000000 ∧ FewO (waitF s t).2.1 := by
  by_cases h : chkS s = 0 ∧ s.st = 1 ∧ s.due ≤ t ∧ t ≤ 2199023255552
  · obtain ⟨e, k⟩ := wait_step h.1 hs h.2.1 h.2.2
    rw [e]
    exact ⟨by have := k.few; simp only; omega, k.fewO⟩
  · obtain ⟨e, _, k⟩ := wait_err h
    rw [k]
    exact ⟨by simp [errF, zeroS], few_nil⟩
theorem law3 (c : Con) (ses : Int) (d : ByteArray) (b e : Int) : Runs C 3 (c.enc ++ [tI ses, .str d, tI b, tI e]) [.bool true] := by
  refine Runs.of (fun n => e3 n _ _ _ _ _ _ _ _ _ _ _) ?_
  obtain ⟨f1, f2⟩ := start_few c ses d b e
  refine (s10.and ((s11 c ses d b e).and ((s12 c ses d b e).and ((same_snd (startF c ses d b e).1 (by rw [f1]; simp)).and (same_out _ f2))))).mono fun n g => ?_
  obtain ⟨g1, g2, g3, g4, g5⟩ := g
  generalize startF c ses d b e = p at g2 g3 g4 g5
  obtain ⟨p, o, z⟩ := p
  simp only [Con.enc, Snd.enc, ret3, List.cons_append, List.nil_append] at g2 g3 g4 g5
  simp only [vv, reduceCtorEq, Nat.reduceAdd, Nat.reduceEqDiff]
  by_cases q1 : (200 : Int) < (d.size : Int)
  · by_cases q2 : (d.size : Int) ≤ 65536
    · simp only [q1, q2, vv, reduceCtorEq, Nat.reduceAdd, Nat.reduceEqDiff, J3_1, g1]
    · by_cases q3 : (65545 : Int) < (d.size : Int)
      · simp only [q1, q2, q3, vv, reduceCtorEq, Nat.reduceAdd, Nat.reduceEqDiff, J3_1, g1]
      · simp only [q1, q2, q3, vv, reduceCtorEq, Nat.reduceAdd, Nat.reduceEqDiff, J3_1, g1, g2, g3, g4, g5, beq_self_eq_true]
  · have q3 : ¬ (65545 : Int) < (d.size : Int) := by omega
    simp only [q1, q3, vv, reduceCtorEq, Nat.reduceAdd, Nat.reduceEqDiff, J3_1, g1, g2, g3, g4, g5, beq_self_eq_true]
theorem law4 (s : Snd) (t : Int) (x : Seg) : Runs C 4 (s.enc ++ [tI t] ++ x.enc) [.bool true] := by
  refine Runs.of (fun n => e4 n _ _ _ _ _ _ _ _ _ _ _ _ _ _ _ _ _ _ _ _ _ _ _ _) ?_
  cases hs : greatS s
  · cases hx : greatG x
    · have b1 := great_no hs
      have b2 := greatG_no hx
      obtain ⟨f1, f2⟩ := hear_few (s := s) (t := t) (x := x) (by omega) b2
      refine (s10.and ((s15 s).and ((s16 x).and ((s17 s t x (by omega) b2).and ((s18 s t x (by omega) b2).and ((same_snd _ f1).and (same_out _ f2))))))).mono fun n g => ?_
      obtain ⟨g1, g2, g3, g4, g5, g6, g7⟩ := g
      rw [hs] at g2
      rw [hx] at g3
      generalize hearF s t x = p at g4 g5 g6 g7
      obtain ⟨p, o, z⟩ := p
      simp only [Snd.enc, Seg.enc, ret3, List.cons_append, List.nil_append] at g2 g3 g4 g5 g6 g7
      simp only [vv, reduceCtorEq, Nat.reduceAdd, Nat.reduceEqDiff, g1, g2, g3, g4, g5, g6, g7, J4_1, beq_self_eq_true]
    · refine (s10.and ((s15 s).and (s16 x))).mono fun n g => ?_
      obtain ⟨g1, g2, g3⟩ := g
      rw [hs] at g2
      rw [hx] at g3
      simp only [Snd.enc, Seg.enc] at g2 g3
      simp only [vv, reduceCtorEq, Nat.reduceAdd, Nat.reduceEqDiff, g1, g2, g3, J4_1]
  · refine (s10.and (s15 s)).mono fun n g => ?_
    obtain ⟨g1, g2⟩ := g
    rw [hs] at g2
    simp only [Snd.enc] at g2
    simp only [vv, reduceCtorEq, Nat.reduceAdd, Nat.reduceEqDiff, g1, g2, J4_1]
theorem miss_len {s : Snd} (hs : s.acked.length ≤ 100) : (missL s).length ≤ 1000000 := by
  unfold missL
  by_cases h : chkS s = 0
  · rw [if_pos h]
    have hF := fok_of h hs
    have := chkL_len hF.left_chk
    omega
  · rw [if_neg h]
    simp
theorem law7 (s : Snd) (t : Int) : Runs C 7 (s.enc ++ [tI t]) [.bool true] := by
  refine Runs.of (fun n => e7 n _ _ _ _ _ _ _ _ _ _ _ _ _ _ _ _) ?_
  cases hs : greatS s
  · have b1 := great_no hs
    obtain ⟨f1, f2⟩ := wait_few (s := s) (t := t) (by omega)
    have t30 := s30 (missL s) (missL s) (miss_len (by omega))
    simp only [decide_true] at t30
    refine (s10.and ((s15 s).and ((s26 s t (by omega)).and ((s27 s t (by omega)).and ((same_snd _ f1).and ((same_out _ f2).and ((s25 s).and ((s28 s (by omega)).and ((s19 s).and ((s29 s (by omega)).and t30)))))))))).mono fun n g => ?_
    obtain ⟨g1, g2, g3, g4, g5, g6, g7, g8, g9, g10, g11⟩ := g
    rw [hs] at g2
    generalize waitF s t = p at g3 g4 g5 g6
    obtain ⟨p, o, z⟩ := p
    simp only [Snd.enc, ret3, List.cons_append, List.nil_append] at g2 g3 g4 g5 g6 g7 g8 g9 g10
    simp only [vv, reduceCtorEq, Nat.reduceAdd, Nat.reduceEqDiff, g1, g2, g3, g4, g5, g6, g7, g8, g9, g10, g11, beq_self_eq_true]
  · refine (s10.and (s15 s)).mono fun n g => ?_
    obtain ⟨g1, g2⟩ := g
    rw [hs] at g2
    simp only [Snd.enc] at g2
    simp only [vv, reduceCtorEq, Nat.reduceAdd, Nat.reduceEqDiff, g1, g2]
end Ab

set_option linter.unusedVariables false
set_option linter.unusedSimpArgs false
namespace Ab
open Go
theorem timeE_zero {r : Int} {x : Seg} (h : chkG x = 0) (hr : 1 ≤ r ∧ r ≤ 1000) : timeE r x = 0 := by
  unfold timeE
  rw [if_neg (by omega), if_neg (by omega)]
theorem s22 (s : Snd) (d : ByteArray) (l : List Seg) (t : Int) (h : l = [] ∨ Bat d s.ses s.ser l ∧ s.busy = endAt s.c.rate t l ∧ s.busy ≤ s.fin ∧ s.due = s.busy + 2 * s.c.rng + 1 ∧ s.st = 1)
    (hs : 0 ≤ s.ses ∧ s.ses ≤ 1099511627776) (hq : 1 ≤ s.ser ∧ s.ser ≤ 1099511627776) (hd : 1 ≤ d.size ∧ d.size ≤ 65536) (hr : 1 ≤ s.c.rate ∧ s.c.rate ≤ 1000) (hg : 0 ≤ s.c.rng ∧ s.c.rng ≤ 1048576) (ht : 0 ≤ t ∧ t ≤ 4398046511104) :
    Runs C 22 (s.enc ++ [.sl 9 ((outsF s.c.rate t l).map Out.enc), tI t]) [.bool true] := by
  refine Runs.of (fun n => e22 n _ _ _ _ _ _ _ _ _ _ _ _ _ _ _ _ _) ?_
  have hl : l.length ≤ 100000000 := by
    rcases h with rfl | ⟨h, _⟩
    · simp
    · exact h.len2 hd.2
  refine loop_at l (fun i => (([.t (tI (endAt s.c.rate t (l.take i))), .t (tI i)], []) : List AV × Heap)) rfl (fun i x hx => ?_) ?_
  · obtain ⟨hb, h1, h2, h3, h4⟩ : Bat d s.ses s.ser l ∧ s.busy = endAt s.c.rate t l ∧ s.busy ≤ s.fin ∧ s.due = s.busy + 2 * s.c.rng + 1 ∧ s.st = 1 := by
      rcases h with rfl | h
      · cases hx
      · exact h
    have hi := lt_of_some hx
    have hto := ticks_nn s.c.rate x
    have hE := endAt_le s.c.rate (l.take i) t
    have hL : (l.take i).length = i := by rw [List.length_take]; omega
    have hO := outsF_len s.c.rate l t
    rw [hL] at hE
    obtain ⟨g1, g2, g3, g4⟩ := hb.good hs hq hd hx
    have hG := outsF_get s.c.rate l t i x hx
    have t31 := s31 s.c.rate x
    rw [timeE_zero g1 hr] at t31
    refine t31.mono fun n y again => ?_
    simp only [Seg.enc, g2] at y
    rw [take_succ_of hx, endAt_app]
    have hchk : (x.chk == ((i : Int) == w64 ((l.length : Int) - 1))) = true := by
      rw [w64_id (by omega) (by omega), g3]
      by_cases q : i = l.length - 1
      · have q2 : (i : Int) = (l.length : Int) - 1 := by omega
        rw [q2]
        simp [q]
      · have : ¬ (i : Int) = (l.length : Int) - 1 := by omega
        simp [q, this]
    simp only [L22_1, vv, reduceCtorEq, Nat.reduceAdd, Nat.reduceEqDiff, hO, hG, (show (i : Int) < (l.length : Int) by omega), Out.enc, y, w64_id (x := endAt s.c.rate t (l.take i) + ticks s.c.rate x) (by omega) (by omega), bne_self_eq_false, g2, hchk, w64_succ (show i < 4611686018427387904 by omega)]
    cases hcc : x.chk
    · simp only [vv, reduceCtorEq, Nat.reduceAdd, Nat.reduceEqDiff]
    · have := g4 hcc
      simp only [vv, reduceCtorEq, Nat.reduceAdd, Nat.reduceEqDiff, this, bne_self_eq_false]
  · rw [List.take_length]
    refine Ev.of fun n again => ?_
    have hO := outsF_len s.c.rate l t
    rcases h with rfl | ⟨hb, h1, h2, h3, h4⟩
    · simp only [L22_1, vv, reduceCtorEq, Nat.reduceAdd, Nat.reduceEqDiff, outsF, List.map_nil, Int.lt_irrefl, nc0, beq_self_eq_true]
    · have hE := endAt_le s.c.rate l t
      have hp := List.length_pos_iff.2 hb.ne
      simp only [L22_1, vv, reduceCtorEq, Nat.reduceAdd, Nat.reduceEqDiff, hO, Int.lt_irrefl, beq_iff_eq, (show ¬ ((l.length : Int) = 0) by omega), ← h1, h2, h3, h4, w64_id (x := 2 * s.c.rng) (by omega) (by omega), w64_id (x := s.busy + 2 * s.c.rng) (by omega) (by omega), w64_id (x := s.busy + 2 * s.c.rng + 1) (by omega) (by omega), beq_self_eq_true]
theorem bne_bytes (a : ByteArray) : (a != a) = false := by
  show (!(a == a)) = false
  rw [beq_bytes]
  simp
theorem miss_ok {s : Snd} (h : chkS s = 0) : missL s = leftS s ∧ missE s = 0 := by
  unfold missL missE
  rw [if_pos h, if_pos h]
  exact ⟨rfl, rfl⟩
theorem law8 (s : Snd) (t : Int) : Runs C 8 (s.enc ++ [tI t]) [.bool true] := by
  refine Runs.of (fun n => e8 n _ _ _ _ _ _ _ _ _ _ _ _ _ _ _ _) ?_
  cases hs : greatS s
  · have b1 := great_no hs
    have hk : s.acked.length ≤ 100 := by omega
    by_cases hm : 1099511627776 ≤ s.ser
    · refine (s10.and (s15 s)).mono fun n g => ?_
      obtain ⟨g1, g2⟩ := g
      rw [hs] at g2
      simp only [Snd.enc] at g2
      simp only [vv, reduceCtorEq, Nat.reduceAdd, Nat.reduceEqDiff, g1, g2, hm, J8_2]
    · by_cases h : chkS s = 0 ∧ s.st = 1 ∧ s.due ≤ t ∧ t ≤ 2199023255552
      · obtain ⟨h1, h2, h3⟩ := h
        have hF := fok_of h1 hk
        obtain ⟨hc, hdue⟩ := fits_wait h1 h2
        have hr := hF.rng
        have hn := hF.num
        obtain ⟨e, hst⟩ := wait_step h1 hk h2 h3
        rcases hF.batch hc with ⟨bb, _⟩ | ⟨hser, hB⟩
        · omega
        obtain ⟨m1, m2⟩ := miss_ok h1
        have t25 := s25 s
        rw [m1, m2] at t25
        have t21 := s21 s.ses (s.ser + 1) s.data (leftS s)
        rw [hF.bat hc hser] at t21
        have t21 : Runs C 21 [tI s.ses, tI (s.ser + 1), .str s.data, .sl 2 ((leftS s).map Span.enc)] [.sl 8 ((batchS s).map Seg.enc), tI 0] := t21
        obtain ⟨pre, z, hz, hz1, hz2⟩ := hB.ex
        have hlo : lastOf (batchS s) = [{ z with ser := s.ser + 1, chk := true }] := by rw [hz, lastOf_concat]
        have hgood := hB.lastOf.good hn.1 (by omega) hF.dat (i := 0) (y := { z with ser := s.ser + 1, chk := true }) (by rw [hlo]; rfl)
        have hlast : (batchS s)[(batchS s).length - 1]? = some { z with ser := s.ser + 1, chk := true } := by
          rw [hz]
          simp
        have hlen : 1 ≤ (batchS s).length ∧ (batchS s).length ≤ 65537 := by
          have := hB.len
          have := hF.dat
          have : 1 ≤ (batchS s).length := by rw [hz]; simp
          omega
        have t26 := s26 s t hk
        rw [e] at t26
        have t30 : Runs C 30 [.sl 2 (s.acked.map Span.enc), .sl 2 (s.acked.map Span.enc)] [.bool true] := by
          have := s30 s.acked s.acked (by omega)
          simpa using this
        have tpos : 0 ≤ t ∧ t ≤ 4398046511104 := by omega
        rcases send_cases (s := s) (t := t) (d := s.data) (ser := s.ser + 1) (l := lastOf (batchS s)) (.inr ⟨hB.lastOf, by omega⟩) with ⟨q1, q2⟩ | ⟨_, q1, q2, q3⟩
        · rw [q1] at t26 hst
          have q2 : s.fin < endAt s.c.rate t (lastOf (batchS s)) := by
            rcases q2 with q2 | q2
            · rw [hlo] at q2; cases q2
            · exact q2
          rw [hlo] at q2
          generalize hz' : ({ z with ser := s.ser + 1, chk := true } : Seg) = z' at q2 hlast hgood
          have q2 : s.fin < t + ticks s.c.rate z' := q2
          have t31 := s31 s.c.rate z'
          rw [timeE_zero hgood.1 (by omega)] at t31
          have ht31 := ticks_nn s.c.rate z'
          have t19 := s19 (failS s)
          rw [hst.ok] at t19
          generalize batchS s = bt at t21 hlast hlen
          refine (s10.and ((s15 s).and (t26.and (t25.and (t21.and (t19.and (t30.and t31))))))).mono fun n g => ?_
          obtain ⟨g1, g2, g3, g4, g5, g6, g7, g8⟩ := g
          rw [hs] at g2
          simp only [Snd.enc, Seg.enc, ret3, failS, List.map_nil, List.cons_append, List.nil_append] at g2 g3 g4 g5 g6 g8
          have e1 : w64 ((bt.length : Int) - 1) = ((bt.length - 1 : Nat) : Int) := by rw [w64_id (by omega) (by omega)]; omega
          simp only [vv, reduceCtorEq, Nat.reduceAdd, Nat.reduceEqDiff, g1, g2, g3, hm, J8_2, g4, bne_self_eq_false, bne_bytes, w64_id (x := s.ser + 1) (by omega) (by omega), g5, beq_iff_eq, (show ¬ ((bt.length : Int) = 0) by omega), g6, g7, J8_1, e1, (show ((bt.length - 1 : Nat) : Int) < (bt.length : Int) by omega), hlast, Seg.enc, g8, nc0, w64_id (x := t + ticks s.c.rate z') (by omega) (by omega), q2]
        · rw [q3] at t26 hst
          rw [hlo] at t26 hst q2
          have t22 := s22 (sentS s (endAt s.c.rate t [{ z with ser := s.ser + 1, chk := true }]) (s.ser + 1)) s.data [{ z with ser := s.ser + 1, chk := true }] t (.inr ⟨by have := hB.lastOf; rw [hlo] at this; exact this, rfl, q2, rfl, rfl⟩) hn.1 (by simp only [sentS]; omega) hF.dat (by simp only [sentS]; omega) (by simp only [sentS]; omega) tpos
          generalize hz' : ({ z with ser := s.ser + 1, chk := true } : Seg) = z' at q2 hlast hgood t26 hst t22
          have hcl : z'.claims = [] := by rw [← hz']; exact hz1.cl
          have t23 : Runs C 23 (z'.enc ++ z'.enc) [.bool true] := by
            have := s23 z' z' (by rw [hcl]; simp)
            simpa using this
          have t19 := s19 (sentS s (endAt s.c.rate t [z']) (s.ser + 1))
          rw [hst.ok] at t19
          generalize batchS s = bt at t21 hlast hlen
          refine (s10.and ((s15 s).and (t26.and (t25.and (t21.and (t19.and (t30.and (t22.and t23)))))))).mono fun n g => ?_
          obtain ⟨g1, g2, g3, g4, g5, g6, g7, g8, g9⟩ := g
          rw [hs] at g2
          simp only [Snd.enc, Seg.enc, ret3, sentS, outsF, endAt, Out.enc, List.map_cons, List.map_nil, List.cons_append, List.nil_append] at g2 g3 g4 g5 g6 g8 g9
          have e1 : w64 ((bt.length : Int) - 1) = ((bt.length - 1 : Nat) : Int) := by rw [w64_id (by omega) (by omega)]; omega
          simp only [vv, reduceCtorEq, Nat.reduceAdd, Nat.reduceEqDiff, g1, g2, g3, hm, J8_2, g4, bne_self_eq_false, bne_bytes, w64_id (x := s.ser + 1) (by omega) (by omega), g5, beq_iff_eq, (show ¬ ((bt.length : Int) = 0) by omega), g6, g7, J8_1, e1, (show ((bt.length - 1 : Nat) : Int) < (bt.length : Int) by omega), hlast, Seg.enc, nc1, Int.reduceEq, List.getElem?_cons_zero, g9, g8]
      · obtain ⟨z, hz, e⟩ := wait_err h
        have t26 := s26 s t hk
        rw [e] at t26
        refine (s10.and ((s15 s).and t26)).mono fun n g => ?_
        obtain ⟨g1, g2, g3⟩ := g
        rw [hs] at g2
        simp only [Snd.enc, ret3, errF, zeroS, List.map_nil, List.cons_append, List.nil_append] at g2 g3
        simp only [vv, reduceCtorEq, Nat.reduceAdd, Nat.reduceEqDiff, g1, g2, g3, hm, J8_2, bne_iff_ne, ne_eq, hz, not_false_eq_true, nc0, beq_self_eq_true]
  · refine (s10.and (s15 s)).mono fun n g => ?_
    obtain ⟨g1, g2⟩ := g
    rw [hs] at g2
    simp only [Snd.enc] at g2
    simp only [vv, reduceCtorEq, Nat.reduceAdd, Nat.reduceEqDiff, g1, g2, J8_2]
end Ab

set_option linter.unusedVariables false
set_option linter.unusedSimpArgs false
namespace Ab
open Go
def allX (s : Snd) : Seg := ⟨2, s.ses, s.ser, 0, s.data.size, false, ByteArray.mk #[], wholeS s.data⟩
theorem allX_ok {s : Snd} (h : FOk s) : chkG (allX s) = 0 := by
  have hn := h.num
  have hd := h.dat
  have n : SegNum (allX s) := by
    unfold SegNum allX
    simp only
    exact ⟨hn.1, fun f => absurd f (by decide), fun _ => ⟨by omega, by omega, by first | trivial | rfl⟩, fun f => absurd f (by decide)⟩
  have c : SegCon (allX s) := by
    unfold SegCon allX
    simp only
    exact ⟨fun f => absurd f (by decide), fun _ => ⟨trivial, rfl, whole_in hd⟩, fun f => absurd f (by decide)⟩
  unfold chkG
  rw [if_neg (by simp only [allX]; omega), if_neg (fun f => f n), if_neg (fun f => f c)]
theorem uni_whole {s : Snd} (h : FOk s) : uni s.acked (wholeS s.data) = wholeS s.data := by
  have hw := (chkL_iff _).1 (chk_whole h.dat)
  obtain ⟨k1, k2⟩ := uni_spec ((chkL_iff _).1 h.ack).2.1 hw.2.1
  refine canon_unique k1 hw.2.1 fun t => ?_
  rw [k2]
  constructor
  · rintro (m | m)
    · have := within_mem h.win m
      simp only [wholeS, memS, or_false]
      exact this
    · exact m
  · exact .inr
theorem hear_all {s : Snd} {t : Int} (h1 : chkS s = 0) (hs : s.acked.length ≤ 100) (h3 : s.busy ≤ t ∧ t ≤ 2199023255552) :
    ∃ p, hearF s t (allX s) = (p, [], 0) ∧ p.acked.length ≤ 1000000 ∧ (s.st = 1 → p.st = 2) ∧ (s.st ≠ 1 → p = s) := by
  have hF := fok_of h1 hs
  have hX := allX_ok hF
  unfold hearF
  rw [if_neg (by omega), if_neg (by omega)]
  by_cases q : s.st = 1
  · rw [if_neg (by simp only [allX]; omega), if_neg (by simp only [allX]; omega)]
    unfold repF
    have e : ackS s (allX s) = { s with acked := wholeS s.data } := by
      unfold ackS
      rw [show (allX s).claims = wholeS s.data from rfl, uni_whole hF]
    have hc : complete (ackS s (allX s)) = true := by
      rw [e]
      unfold complete
      simp
    rw [if_neg (by simp only [allX]; omega), if_pos hc, e]
    exact ⟨_, rfl, by simp [wholeS], fun _ => rfl, fun f => absurd q f⟩
  · rw [if_pos (.inl q)]
    exact ⟨s, rfl, by omega, fun f => absurd f q, fun _ => rfl⟩
theorem hear_idle {s : Snd} {t : Int} {x : Seg} (h1 : chkS s = 0) (h2 : chkG x = 0) (h3 : s.busy ≤ t ∧ t ≤ 2199023255552) (h : ¬ (x.ses = s.ses ∧ (x.kind = 3 ∨ x.kind = 2 ∧ x.ser = s.ser ∧ x.tot = s.data.size))) : hearF s t x = (s, [], 0) := by
  have hk := (chkG_zero h2).1
  unfold hearF
  rw [if_neg (by omega), if_neg (by omega)]
  by_cases q : s.st ≠ 1 ∨ x.ses ≠ s.ses ∨ x.kind = 1
  · rw [if_pos q]
  · rw [if_neg q, if_neg (by omega)]
    unfold repF
    rw [if_pos (by omega)]
theorem law5 (s : Snd) (t : Int) (x : Seg) : Runs C 5 (s.enc ++ [tI t] ++ x.enc) [.bool true] := by
  refine Runs.of (fun n => e5 n _ _ _ _ _ _ _ _ _ _ _ _ _ _ _ _ _ _ _ _ _ _ _ _) ?_
  cases hs : greatS s
  · cases hx : greatG x
    · have b1 := great_no hs
      have b2 := greatG_no hx
      have hk : s.acked.length ≤ 100 := by omega
      by_cases h1 : chkS s = 0
      · by_cases w1 : t < s.busy
        · refine (s10.and ((s15 s).and ((s16 x).and (s19 s)))).mono fun n g => ?_
          obtain ⟨g1, g2, g3, g4⟩ := g
          rw [hs] at g2
          rw [hx] at g3
          rw [h1] at g4
          simp only [Snd.enc, Seg.enc] at g2 g3 g4
          simp only [vv, reduceCtorEq, Nat.reduceAdd, Nat.reduceEqDiff, g1, g2, g3, g4, bne_self_eq_false, w1, J5_3]
        · by_cases w2 : 2199023255552 < t
          · refine (s10.and ((s15 s).and ((s16 x).and (s19 s)))).mono fun n g => ?_
            obtain ⟨g1, g2, g3, g4⟩ := g
            rw [hs] at g2
            rw [hx] at g3
            rw [h1] at g4
            simp only [Snd.enc, Seg.enc] at g2 g3 g4
            simp only [vv, reduceCtorEq, Nat.reduceAdd, Nat.reduceEqDiff, g1, g2, g3, g4, bne_self_eq_false, w1, w2, J5_3]
          · have h3 : s.busy ≤ t ∧ t ≤ 2199023255552 := by omega
            obtain ⟨p0, e0, a0, st0, st1⟩ := hear_all h1 hk h3
            have t17a := s17 s t (allX s) hk (.inl (by simp [allX, wholeS]))
            rw [e0] at t17a
            have t17 := s17 s t x hk b2
            obtain ⟨f1, f2⟩ := hear_few (s := s) (t := t) (x := x) hk b2
            have t13 := s13 s (hearF s t x).1 (by omega)
            have hz : (hearF s t x).2.2 = 0 ↔ chkG x = 0 := by
              constructor
              · intro hz
                by_cases hg : chkG x = 0
                · exact hg
                · obtain ⟨z, hz0, ez⟩ := hear_err (s := s) (t := t) (x := x) (fun f => hg f.2.1)
                  rw [ez] at hz
                  exact absurd hz hz0
              · exact fun hg => (hear_step h1 hk hg b2 h3).1
            have hstill : chkG x = 0 → s.st ≠ 1 → (hearF s t x).2.1 = [] ∧ (hearF s t x).1 = s := fun hg hst => by
              rcases (hear_step h1 hk hg b2 h3).2.still with q | q
              · exact absurd q hst
              · exact q
            have hidle : chkG x = 0 → ¬ (x.ses = s.ses ∧ (x.kind = 3 ∨ x.kind = 2 ∧ x.ser = s.ser ∧ x.tot = s.data.size)) → (hearF s t x).2.1 = [] ∧ (hearF s t x).1 = s := fun hg hn => by
              rw [hear_idle h1 hg h3 hn]
              exact ⟨rfl, rfl⟩
            generalize hearF s t x = r at t17 t13 hz hstill hidle f1 f2
            obtain ⟨p, o, z⟩ := r
            simp only at t13 hz hstill hidle f1 f2
            refine (s10.and ((s15 s).and ((s16 x).and ((s19 s).and (t17a.and (t17.and ((s20 x).and (t13.and (s13 s p0 (by omega)))))))))).mono fun n g => ?_
            obtain ⟨g1, g2, g3, g4, g5, g6, g7, g8, g9⟩ := g
            rw [hs] at g2
            rw [hx] at g3
            rw [h1] at g4
            have key : ∀ m : Bool, (chkG x = 0 → s.st ≠ 1 ∨ m = false → o = [] ∧ p = s) → J5_1 n (ret3 (p, o, z)) x.kind x.ses x.ser x.off x.tot x.chk x.data (x.claims.map Span.enc) s.st s.c.frm s.c.dst s.c.start s.c.fin s.c.rate s.c.rng s.c.loss s.ses s.data s.fin s.busy s.ser (s.acked.map Span.enc) s.due
                (([.t (.bool m)], [.box [], sndBox p]) : List AV × Heap) = some [.bool true] := by
              intro m hm
              simp only [Snd.enc, Seg.enc, ret3, List.cons_append, List.nil_append] at g7 g8 ⊢
              by_cases hg : chkG x = 0
              · have hz0 := hz.2 hg
                by_cases q : s.st ≠ 1 ∨ m = false
                · obtain ⟨e1, e2⟩ := hm hg q
                  subst e1
                  subst e2
                  simp only [decide_true] at g8
                  cases m
                  · simp only [J5_1, sndBox, vv, reduceCtorEq, Nat.reduceAdd, Nat.reduceEqDiff, hz0, bne_self_eq_false, List.map_nil, nc0, beq_self_eq_true, g8, g1]
                  · have q : ¬ p.st = 1 := by simpa using q
                    simp only [J5_1, sndBox, vv, reduceCtorEq, Nat.reduceAdd, Nat.reduceEqDiff, hz0, bne_self_eq_false, List.map_nil, nc0, beq_self_eq_true, beq_iff_eq, q, g8, g1]
                · have q1 : s.st = 1 := by
                    by_cases k : s.st = 1
                    · exact k
                    · exact absurd (.inl k) q
                  have q2 : m = true := by
                    cases m
                    · exact absurd (.inr rfl) q
                    · rfl
                  subst q2
                  simp only [J5_1, vv, reduceCtorEq, Nat.reduceAdd, Nat.reduceEqDiff, hz0, bne_self_eq_false, q1, beq_self_eq_true, g1]
              · have hz0 : ¬ z = 0 := fun f => hg (hz.1 f)
                simp only [J5_1, vv, reduceCtorEq, Nat.reduceAdd, Nat.reduceEqDiff, bne_iff_ne, ne_eq, hz0, not_false_eq_true, g7, hg, g1]
            have hne : ∀ m : Bool, m = true ∨ ¬ (x.ses = s.ses ∧ (x.kind = 3 ∨ x.kind = 2 ∧ x.ser = s.ser ∧ x.tot = s.data.size)) → (chkG x = 0 → s.st ≠ 1 ∨ m = false → o = [] ∧ p = s) := by
              intro m hm hg hq
              rcases hq with hq | hq
              · exact hstill hg hq
              · rcases hm with hm | hm
                · rw [hm] at hq; cases hq
                · exact hidle hg hm
            have key2 : J5_2 n s.c.frm s.c.dst s.c.start s.c.fin s.c.rate s.c.rng s.c.loss s.ses s.data s.fin s.busy s.ser (s.acked.map Span.enc) s.due s.st t x.kind x.ses x.ser x.off x.tot x.chk x.data (x.claims.map Span.enc) (([.t (.bool false)], [.box [], sndBox p0]) : List AV × Heap) = some [.bool true] := by
              have kk : ∀ m : Bool, m = true ∨ ¬ (x.ses = s.ses ∧ (x.kind = 3 ∨ x.kind = 2 ∧ x.ser = s.ser ∧ x.tot = s.data.size)) → _ := fun m hm => key m (hne m hm)
              simp only [Snd.enc, Seg.enc, ret3, sndBox, List.cons_append, List.nil_append] at g6 kk
              simp only [J5_2, vv, reduceCtorEq, Nat.reduceAdd, Nat.reduceEqDiff, g6]
              by_cases q1 : x.ses = s.ses
              · by_cases q2 : x.kind = 3
                · simp only [q1, q2, beq_self_eq_true, vv, reduceCtorEq, Nat.reduceAdd, Nat.reduceEqDiff]
                  have := kk true (.inl rfl)
                  simp only [q1, q2] at this
                  exact this
                · by_cases q3 : x.kind = 2
                  · by_cases q4 : x.ser = s.ser
                    · simp only [q1, q3, q4, beq_self_eq_true, vv, reduceCtorEq, Nat.reduceAdd, Nat.reduceEqDiff, Int.reduceBEq]
                      have := kk (x.tot == (s.data.size : Int)) (by
                        by_cases q5 : x.tot = s.data.size
                        · exact .inl (by simp [q5])
                        · exact .inr (by omega))
                      simp only [q1, q3, q4] at this
                      exact this
                    · simp only [q1, q3, q4, beq_self_eq_true, beq_iff_eq, vv, reduceCtorEq, Nat.reduceAdd, Nat.reduceEqDiff, Int.reduceEq]
                      have := kk false (.inr (by omega))
                      simp only [q1, q3] at this
                      exact this
                  · simp only [q1, q2, q3, beq_self_eq_true, beq_iff_eq, vv, reduceCtorEq, Nat.reduceAdd, Nat.reduceEqDiff]
                    have := kk false (.inr (by omega))
                    simp only [q1] at this
                    exact this
              · simp only [q1, beq_iff_eq, vv, reduceCtorEq, Nat.reduceAdd, Nat.reduceEqDiff]
                exact kk false (.inr (by omega))
            simp only [sndBox] at key2
            simp only [Snd.enc, Seg.enc, ret3, allX, wholeS, Span.enc, List.map_nil, List.map_cons, List.cons_append, List.nil_append] at g2 g3 g4 g5 g9
            simp only [vv, reduceCtorEq, Nat.reduceAdd, Nat.reduceEqDiff, g1, g2, g3, g4, bne_self_eq_false, w1, w2, J5_3, g5, nc0]
            by_cases q : s.st = 1
            · have := st0 q
              simp only [q, this] at key2 ⊢
              simp only [vv, reduceCtorEq, Nat.reduceAdd, Nat.reduceEqDiff, beq_self_eq_true, bne_self_eq_false]
              exact key2
            · have := st1 q
              subst this
              simp only [decide_true] at g9
              simp only [vv, reduceCtorEq, Nat.reduceAdd, Nat.reduceEqDiff, beq_iff_eq, bne_iff_ne, ne_eq, q, not_false_eq_true, g9]
              exact key2
      · refine (s10.and ((s15 s).and ((s16 x).and (s19 s)))).mono fun n g => ?_
        obtain ⟨g1, g2, g3, g4⟩ := g
        rw [hs] at g2
        rw [hx] at g3
        simp only [Snd.enc, Seg.enc] at g2 g3 g4
        simp only [vv, reduceCtorEq, Nat.reduceAdd, Nat.reduceEqDiff, g1, g2, g3, g4, bne_iff_ne, ne_eq, h1, not_false_eq_true, J5_3]
    · refine (s10.and ((s15 s).and (s16 x))).mono fun n g => ?_
      obtain ⟨g1, g2, g3⟩ := g
      rw [hs] at g2
      rw [hx] at g3
      simp only [Snd.enc, Seg.enc] at g2 g3
      simp only [vv, reduceCtorEq, Nat.reduceAdd, Nat.reduceEqDiff, g1, g2, g3, J5_3]
  · refine (s10.and (s15 s)).mono fun n g => ?_
    obtain ⟨g1, g2⟩ := g
    rw [hs] at g2
    simp only [Snd.enc] at g2
    simp only [vv, reduceCtorEq, Nat.reduceAdd, Nat.reduceEqDiff, g1, g2, J5_3]
end Ab
