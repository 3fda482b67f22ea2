/- Parts of the proof: see the last text. -/
import Derived.Test.YtblkfmemhpjbgaaQuF2
set_option linter.unusedVariables false
set_option linter.unusedSimpArgs false
namespace Ab
open Go


/-! ### the model -/
structure QS where
  co : List Arr
  wait : List Entry
  now : Entry
  fin : Int
  busy : Bool
  out : List Int
def timeQ (s : QS) : Option Int := match s.busy, s.co with
  | true, [] => some s.fin
  | true, a :: _ => some (if a.at_ < s.fin then a.at_ else s.fin)
  | false, a :: _ => some a.at_
  | false, [] => none
def markQ (l : List Arr) (k t : Int) (o : List Int) : List Int := List.zipWith (fun a x => if a.e.ticket = k then t else x) l o
def endQ (l : List Arr) (t : Int) (s : QS) : QS := if s.busy = true ∧ t = s.fin then { s with busy := false, out := markQ l s.now.ticket t s.out } else s
def takeQ (t : Int) (s : QS) : QS := { s with wait := (s.co.takeWhile fun a => decide (a.at_ = t)).foldl (fun w a => insQ a.e w) s.wait, co := s.co.dropWhile fun a => decide (a.at_ = t) }
def expQ (t : Int) (s : QS) : QS := { s with wait := freshQ s.wait t }
def pre (x y : Entry) : Prop := x.prio = 2 ∧ y.prio < 2
instance (x y : Entry) : Decidable (pre x y) := inferInstanceAs (Decidable (_ ∧ _))
def preQ (t : Int) (s : QS) : QS := match s.wait with
  | x :: _ => if s.busy = true ∧ pre x s.now then { s with busy := false, wait := freshQ (insQ s.now s.wait) t } else s
  | [] => s
def durQ (rate : Int) (x : Entry) : Int := (x.size + rate - 1) / rate
def begQ (rate t : Int) (s : QS) : QS := if s.busy = true then s else match s.wait with
  | [] => s
  | x :: r => { s with now := x, wait := r, busy := true, fin := t + durQ rate x }
def stepQ (l : List Arr) (rate t : Int) (s : QS) : QS := begQ rate t (preQ t (expQ t (takeQ t (endQ l t s))))
def roundQ (l : List Arr) (rate : Int) (s : QS) : Rd QS (List Int) := match timeQ s with
  | none => .done s.out
  | some t => .next (stepQ l rate t s)
def muQ (s : QS) : Nat := 2 * s.co.length + s.wait.length + s.busy.toNat
def startQ (l : List Arr) : QS := ⟨l, [], zeroE, 0, false, List.replicate l.length (-1)⟩
theorem insF_length (w : List Entry) : ∀ (c : List Arr), (c.foldl (fun w a => insQ a.e w) w).length = w.length + c.length := by
  intro c
  induction c generalizing w with
  | nil => rfl
  | cons a c ih => rw [List.foldl_cons, ih]; simp [insQ, insB_len]; omega
theorem tw_dw_len {α : Type} (p : α → Bool) (l : List α) : (l.takeWhile p).length + (l.dropWhile p).length = l.length := by
  conv => rhs; rw [← List.takeWhile_append_dropWhile (p := p) (l := l)]
  rw [List.length_append]
theorem fresh_len (l : List Entry) (t : Int) : (freshQ l t).length ≤ l.length := List.length_filter_le _ _
theorem mu_beg (rate t : Int) (s : QS) : muQ (begQ rate t s) = muQ s := by
  unfold begQ
  split
  · rfl
  · rename_i hb
    split
    · rfl
    · rename_i x r hw
      simp [muQ, hb, hw]
      omega
theorem mu_pre (t : Int) (s : QS) : muQ (preQ t s) ≤ muQ s := by
  unfold preQ
  split
  · rename_i x r hw
    split
    · rename_i h
      have := fresh_len (insQ s.now s.wait) t
      rw [show (insQ s.now s.wait).length = s.wait.length + 1 from insB_len _ _ _] at this
      simp [muQ, h.1]
      omega
    · omega
  · omega
theorem mu_exp (t : Int) (s : QS) : muQ (expQ t s) ≤ muQ s := by
  have := fresh_len s.wait t
  simp only [muQ, expQ]
  omega
theorem mu_take (t : Int) (s : QS) : muQ (takeQ t s) + (s.co.takeWhile fun a => decide (a.at_ = t)).length = muQ s := by
  have := tw_dw_len (fun a : Arr => decide (a.at_ = t)) s.co
  simp only [muQ, takeQ, insF_length]
  omega
theorem mu_end (l : List Arr) (t : Int) (s : QS) : muQ (endQ l t s) + (if s.busy = true ∧ t = s.fin then 1 else 0) = muQ s := by
  unfold endQ
  split
  · rename_i h
    simp [muQ, h.1]
  · rfl
theorem mu_step {l : List Arr} {rate t : Int} {s : QS} (ht : timeQ s = some t) : muQ (stepQ l rate t s) < muQ s := by
  have h1 := mu_beg rate t (preQ t (expQ t (takeQ t (endQ l t s))))
  have h2 := mu_pre t (expQ t (takeQ t (endQ l t s)))
  have h3 := mu_exp t (takeQ t (endQ l t s))
  have h4 := mu_take t (endQ l t s)
  have h5 := mu_end l t s
  have hco : (endQ l t s).co = s.co := by unfold endQ; split <;> rfl
  unfold stepQ
  by_cases hd : s.busy = true ∧ t = s.fin
  · rw [if_pos hd] at h5
    omega
  · have : 0 < ((endQ l t s).co.takeWhile fun a => decide (a.at_ = t)).length := by
      rw [hco]
      unfold timeQ at ht
      split at ht
      · rename_i hb hc
        cases ht
        exact absurd ⟨hb, rfl⟩ hd
      · rename_i a r hb hc
        cases ht
        rw [hc]
        split
        · simp [List.takeWhile_cons]
        · rename_i hlt
          exact absurd ⟨hb, by rw [if_neg hlt]⟩ hd
      · rename_i a r hb hc
        cases ht
        rw [hc]
        simp [List.takeWhile_cons]
      · cases ht
    omega
/-- Steps counted. -/
def itN {σ Q : Type} (step : σ → Rd σ Q) (d : σ → Q) : Nat → σ → Q
  | 0, s => d s
  | k + 1, s => match step s with
    | .next s' => itN step d k s'
    | .done r => r
theorem itN_stable {σ Q : Type} {step : σ → Rd σ Q} {d : σ → Q} {μ : σ → Nat} (hd : ∀ s s', step s = .next s' → μ s' < μ s) : ∀ (k m : Nat) (s : σ), μ s < k → μ s < m → itN step d k s = itN step d m s
  | 0, _, _, h, _ => absurd h (by omega)
  | _, 0, _, _, h => absurd h (by omega)
  | k + 1, m + 1, s, h1, h2 => by
    unfold itN
    split
    · rename_i s' hs
      have := hd s s' hs
      exact itN_stable hd k m s' (by omega) (by omega)
    · rfl
def runQ (l : List Arr) (rate : Int) (s : QS) : List Int := itN (roundQ l rate) (fun s => s.out) (muQ s + 1) s
theorem round_mu {l : List Arr} {rate : Int} {s s' : QS} (h : roundQ l rate s = .next s') : muQ s' < muQ s := by
  unfold roundQ at h
  split at h
  · cases h
  · rename_i t ht
    cases h
    exact mu_step ht
theorem runQ_eq (l : List Arr) (rate : Int) (s : QS) : runQ l rate s = (roundQ l rate s).fin (runQ l rate) := by
  unfold runQ
  rw [itN]
  cases h : roundQ l rate s with
  | next s' => exact itN_stable (fun _ _ => round_mu) _ _ _ (round_mu h) (by omega)
  | done r => rfl
def serveQ (l : List Arr) (rate : Int) : List Int := runQ l rate (startQ l)

/-! ### what holds in every round -/
structure QInv (l : List Arr) (s : QS) : Prop where
  co : s.co = l.drop (l.length - s.co.length)
  out : s.out.length = l.length
  wl : s.wait.length + s.busy.toNat + s.co.length ≤ l.length
  wv : ∀ x ∈ s.wait, ValidE x
  nv : s.busy = true → ValidE s.now
  fin : s.busy = true → 0 ≤ s.fin ∧ s.fin + 65536 * (muQ s : Int) ≤ 1099520016384
theorem QInv.mu {l : List Arr} {s : QS} (h : QInv l s) (hl : l.length ≤ 64) : muQ s ≤ 128 := by
  have := h.wl
  have hc : s.co.length ≤ l.length := by omega
  unfold muQ
  omega
theorem dur_bd {rate : Int} (hr : 1 ≤ rate ∧ rate ≤ 1000) {x : Entry} (hx : ValidE x) : 1 ≤ durQ rate x ∧ durQ rate x ≤ 65536 ∧ Int.tdiv (x.size + rate - 1) rate = durQ rate x := by
  unfold ValidE at hx
  unfold durQ
  refine ⟨?_, ?_, Int.tdiv_eq_ediv_of_nonneg (by omega)⟩
  · rw [Int.le_ediv_iff_mul_le (by omega)]
    omega
  · have : (x.size + rate - 1) / rate < 65537 := by
      rw [Int.ediv_lt_iff_lt_mul (by omega)]
      have : x.size * 1 ≤ x.size * rate := Int.mul_le_mul_of_nonneg_left hr.1 (by omega)
      have h2 : 65537 * rate = 65536 * rate + rate := by omega
      have h3 : 65536 * 1 ≤ 65536 * rate := Int.mul_le_mul_of_nonneg_left hr.1 (by omega)
      omega
    omega
theorem timeQ_bd {l : List Arr} (hg : GoodA l) {s : QS} (h : QInv l s) {t : Int} (ht : timeQ s = some t) : 0 ≤ t ∧ (t ≤ 1099511627776 ∨ s.busy = true ∧ t ≤ s.fin) := by
  have hco : ∀ a ∈ s.co, 0 ≤ a.at_ ∧ a.at_ ≤ 1099511627776 := fun a ha => by
    rw [h.co] at ha
    exact (hg.val a (List.mem_of_mem_drop ha)).1
  unfold timeQ at ht
  split at ht
  · rename_i hb hc
    cases ht
    exact ⟨(h.fin hb).1, .inr ⟨hb, Int.le_refl _⟩⟩
  · rename_i a r hb hc
    cases ht
    have := hco a (by rw [hc]; simp)
    have := h.fin hb
    split
    · omega
    · exact ⟨by omega, .inr ⟨hb, Int.le_refl _⟩⟩
  · rename_i a r hb hc
    cases ht
    have := hco a (by rw [hc]; simp)
    omega
  · cases ht
theorem drop_suffix {α : Type} {l r s : List α} (h : r = l.drop (l.length - r.length)) (hs : s <:+ r) : s = l.drop (l.length - s.length) := by
  have hr : r <:+ l := by rw [h]; exact List.drop_suffix _ _
  have := hs.trans hr
  exact List.suffix_iff_eq_drop.1 this
theorem insF_mem (w : List Entry) (x : Entry) : ∀ (c : List Arr), x ∈ c.foldl (fun w a => insQ a.e w) w ↔ x ∈ w ∨ ∃ a ∈ c, x = a.e := by
  intro c
  induction c generalizing w with
  | nil => simp
  | cons a c ih =>
    rw [List.foldl_cons, ih, insQ, insB_mem]
    simp only [List.mem_cons, exists_eq_or_imp]
    constructor
    · rintro ((h | h) | h)
      · exact .inr (.inl h)
      · exact .inl h
      · exact .inr (.inr h)
    · rintro (h | h | h)
      · exact .inl (.inr h)
      · exact .inl (.inl h)
      · exact .inr h
theorem markQ_len {l : List Arr} {k t : Int} {o : List Int} (h : o.length = l.length) : (markQ l k t o).length = l.length := by
  simp [markQ, h]
/-- What the parts of a round keep. -/
structure QMid (l : List Arr) (s : QS) : Prop where
  co : s.co = l.drop (l.length - s.co.length)
  out : s.out.length = l.length
  wl : s.wait.length + s.busy.toNat + s.co.length ≤ l.length
  wv : ∀ x ∈ s.wait, ValidE x
  nv : s.busy = true → ValidE s.now
theorem QMid.end {l : List Arr} {s : QS} (h : QMid l s) (t : Int) : QMid l (endQ l t s) := by
  unfold endQ
  split
  · rename_i hb
    refine ⟨h.co, markQ_len h.out, ?_, h.wv, fun h => by cases h⟩
    have := h.wl
    simp only [hb.1, Bool.toNat_true] at this
    simp only [Bool.toNat_false]
    omega
  · exact h
theorem QMid.take {l : List Arr} (hg : GoodA l) {s : QS} (h : QMid l s) (t : Int) : QMid l (takeQ t s) := by
  have hl := tw_dw_len (fun a : Arr => decide (a.at_ = t)) s.co
  refine ⟨drop_suffix h.co (List.dropWhile_suffix _), h.out, ?_, fun x hx => ?_, h.nv⟩
  · have := h.wl
    simp only [takeQ, insF_length]
    omega
  · rcases (insF_mem _ _ _).1 hx with hx | ⟨a, ha, rfl⟩
    · exact h.wv x hx
    · have : a ∈ s.co := (List.takeWhile_sublist _).subset ha
      rw [h.co] at this
      exact (hg.val a (List.mem_of_mem_drop this)).2
theorem QMid.exp {l : List Arr} {s : QS} (h : QMid l s) (t : Int) : QMid l (expQ t s) := by
  refine ⟨h.co, h.out, ?_, fun x hx => h.wv x ((List.mem_filter.1 hx).1), h.nv⟩
  have := h.wl
  have := fresh_len s.wait t
  simp only [expQ]
  omega
theorem QMid.pre {l : List Arr} {s : QS} (h : QMid l s) (t : Int) : QMid l (preQ t s) := by
  unfold preQ
  split
  · split
    · rename_i hb
      refine ⟨h.co, h.out, ?_, fun x hx => ?_, fun h => by cases h⟩
      · have := h.wl
        have := fresh_len (insQ s.now s.wait) t
        rw [show (insQ s.now s.wait).length = s.wait.length + 1 from insB_len _ _ _] at this
        simp only [hb.1, Bool.toNat_true, Bool.toNat_false] at *
        omega
      · have := (List.mem_filter.1 hx).1
        rcases (insB_mem _ _ _ _).1 this with rfl | hx
        · exact h.nv hb.1
        · exact h.wv x hx
    · exact h
  · exact h
theorem QMid.beg {l : List Arr} {s : QS} (h : QMid l s) (rate t : Int) : QMid l (begQ rate t s) := by
  unfold begQ
  split
  · exact h
  · rename_i hb
    split
    · exact h
    · rename_i x r hw
      refine ⟨h.co, h.out, ?_, fun y hy => h.wv y (by rw [hw]; simp [hy]), fun _ => h.wv x (by rw [hw]; simp)⟩
      have := h.wl
      simp [hb, hw] at this
      simp
      omega
theorem QInv.mid {l : List Arr} {s : QS} (h : QInv l s) : QMid l s := ⟨h.co, h.out, h.wl, h.wv, h.nv⟩
theorem QInv.step {l : List Arr} (hg : GoodA l) {rate : Int} (hr : 1 ≤ rate ∧ rate ≤ 1000) {s : QS} (h : QInv l s) {t : Int} (ht : timeQ s = some t) : QInv l (stepQ l rate t s) := by
  have h4 := (((h.mid.end t).take hg t).exp t).pre t
  have h5 := h4.beg rate t
  refine ⟨h5.co, h5.out, h5.wl, h5.wv, h5.nv, fun hb => ?_⟩
  have hmu := mu_step (l := l) (rate := rate) ht
  have htb := timeQ_bd hg h ht
  have hm := h.mu hg.len
  -- the end of what is being sent
  have hcase : (stepQ l rate t s).fin = s.fin ∧ s.busy = true ∨ ∃ x, ValidE x ∧ (stepQ l rate t s).fin = t + durQ rate x := by
    have hb2 : (begQ rate t (preQ t (expQ t (takeQ t (endQ l t s))))).busy = true := hb
    unfold stepQ
    generalize hz : preQ t (expQ t (takeQ t (endQ l t s))) = z at *
    unfold begQ
    by_cases hzb : z.busy = true
    · rw [if_pos hzb]
      left
      rw [← hz] at hzb ⊢
      unfold preQ at hzb ⊢
      split at hzb
      · split at hzb
        · cases hzb
        · rename_i hn
          rw [if_neg hn]
          unfold expQ takeQ endQ at hzb ⊢
          simp only at hzb ⊢
          split at hzb
          · cases hzb
          · rename_i hn2
            rw [if_neg hn2]
            exact ⟨rfl, hzb⟩
      · unfold expQ takeQ endQ at hzb ⊢
        simp only at hzb ⊢
        split at hzb
        · cases hzb
        · rename_i hn2
          rw [if_neg hn2]
          exact ⟨rfl, hzb⟩
    · rw [if_neg hzb]
      unfold begQ at hb2
      rw [if_neg hzb] at hb2
      split
      · rename_i hw
        rw [hw] at hb2
        exact absurd hb2 hzb
      · rename_i x r hw
        exact .inr ⟨x, h4.wv x (by rw [hw]; simp), rfl⟩
  rcases hcase with ⟨hf, hsb⟩ | ⟨x, hx, hf⟩
  · have := h.fin hsb
    rw [hf]
    omega
  · have hd := dur_bd hr hx
    rw [hf]
    rcases htb.2 with h1 | ⟨hsb, h1⟩
    · omega
    · have := h.fin hsb
      omega
theorem QInv.start {l : List Arr} : QInv l (startQ l) := ⟨by simp [startQ], by simp [startQ], by simp [startQ], by simp [startQ], fun h => by simp [startQ] at h, fun h => by simp [startQ] at h⟩
end Ab

set_option linter.unusedVariables false
set_option linter.unusedSimpArgs false
set_option maxHeartbeats 1000000
namespace Ab
open Go


def bxE (x : Entry) : AObj := .box [.t (tI x.ticket), .t (tI x.prio), .t (tI x.exp), .t (tI x.size)]
def hpR (l : List Arr) (o : List Int) (x : Entry) : Heap := [.row false l.length 1 (o.map encI), bxE x]
def stR (l : List Arr) (s : QS) : List AV × Heap := ([.t (.bool s.busy), .t (.sl 4 (s.wait.map Entry.enc)), .t (tI ((l.length - s.co.length : Nat) : Int)), .t (tI s.fin)], hpR l s.out s.now)
theorem r1 (l : List Arr) {rate : Int} (hr : 1 ≤ rate ∧ rate ≤ 1000) {t : Int} (ht : 0 ≤ t ∧ t ≤ 1099520016384) (s : QS) (hs : QMid l s) (p7 p14 p27 : List AV × Heap) (h1 : vI p27 1 = ((l.length - s.co.length : Nat) : Int)) (h2 : vI p14 0 = t) (h3 : vI p7 3 = s.fin) (n : Nat) (z : List AV × Heap → Option (List Tree)) :
    J14_3 n rate z p27 p14 p7 ([.t (.sl 4 (s.wait.map Entry.enc)), .t (.bool s.busy)], hpR l s.out s.now) = z (stR l (begQ rate t s)) := by
  unfold begQ stR hpR bxE
  obtain ⟨co, wait, now, fin, busy, out⟩ := s
  cases busy with
  | true => simp only [J14_3, J14_2, vv, reduceCtorEq, Nat.reduceAdd, Nat.reduceEqDiff, h1, h2, h3, hpR, bxE]
  | false =>
    cases wait with
    | nil => simp only [J14_3, J14_2, vv, reduceCtorEq, Nat.reduceAdd, Nat.reduceEqDiff, h1, h2, h3, List.map_nil, Int.natCast_zero, Int.lt_irrefl]
    | cons x r =>
      have hx : ValidE x := hs.wv x (by simp)
      obtain ⟨d1, d2, d3⟩ := dur_bd hr hx
      have hsz := hx
      unfold ValidE at hsz
      have w1 : w64 (x.size + rate) = x.size + rate := w64_id (by omega) (by omega)
      have w2 : w64 (x.size + rate - 1) = x.size + rate - 1 := w64_id (by omega) (by omega)
      have w3 : w64 (durQ rate x) = durQ rate x := w64_id (by omega) (by omega)
      have w4 : w64 (t + durQ rate x) = t + durQ rate x := w64_id (by omega) (by omega)
      have e1 : List.take r.length (List.map Entry.enc r) = List.map Entry.enc r := List.take_of_length_le (by simp)
      simp only [J14_3, J14_2, vv, reduceCtorEq, Nat.reduceAdd, Nat.reduceEqDiff, h1, h2, h3, List.map_cons, List.getElem?_cons_zero, Entry.enc, (show (0 : Int) < ((r.length + 1 : Nat) : Int) by omega), (show (0 : Int) ≤ 1 by omega), (show (1 : Int) ≤ ((r.length + 1 : Nat) : Int) by omega), (show ¬ rate = 0 by omega), w1, w2, d3, w3, w4, List.take_succ_cons, List.drop_succ_cons, e1]
theorem r2 (l : List Arr) (hl : l.length ≤ 64) {rate : Int} (hr : 1 ≤ rate ∧ rate ≤ 1000) {t : Int} (ht : 0 ≤ t ∧ t ≤ 1099520016384) (s : QS) (hs : QMid l s) (p7 p14 p27 p19 : List AV × Heap) (a0 : List (List Tree)) (h1 : vI p27 1 = ((l.length - s.co.length : Nat) : Int)) (h2 : vI p14 0 = t) (h3 : vI p7 3 = s.fin) (h4 : vL p27 0 = s.wait.map Entry.enc) (h5 : vB p19 0 = s.busy) :
    Ev fun n => ∀ ag28 z, J14_5 n p27 a0 ag28 p14 rate z p7 p19 ([.t (.bool false)], hpR l s.out s.now) = z (stR l (begQ rate t (preQ t (expQ t s)))) := by
  have hwl := hs.wl
  have hfl := fresh_len s.wait t
  have hlw : s.wait.length ≤ 1000000 := by omega
  have hx := hs.exp t
  have hp := hx.pre t
  have n1 := r1 l hr ht (preQ t (expQ t s)) hp p7 p14 p27
  have hfin : (preQ t (expQ t s)).fin = s.fin := by
    unfold preQ
    split
    · split <;> rfl
    · rfl
  have hco : (preQ t (expQ t s)).co = s.co := by
    unfold preQ
    split
    · split <;> rfl
    · rfl
  rw [hfin, hco] at n1
  have n2 := n1 h1 h2 h3
  cases hf : freshQ s.wait t with
  | nil =>
    have hpre : preQ t (expQ t s) = expQ t s := by unfold preQ expQ; simp only [hf]
    rw [hpre] at n2 ⊢
    simp only [expQ, hf, List.map_nil, hpR, bxE] at n2
    refine (s42 s.wait t hlw).mono fun n h ag28 z => ?_
    rw [hf] at h
    cases hb : s.busy with
    | true =>
      rw [hb] at n2
      simp only [J14_5, J14_4, hpR, bxE, vv, reduceCtorEq, Nat.reduceAdd, Nat.reduceEqDiff, h2, h4, h5, h, hb, List.map_nil, Int.natCast_zero, Int.lt_irrefl]
      simpa only [expQ, hf, hb] using n2 n z
    | false =>
      rw [hb] at n2
      simp only [J14_5, J14_4, hpR, bxE, vv, reduceCtorEq, Nat.reduceAdd, Nat.reduceEqDiff, h2, h4, h5, h, hb, List.map_nil, Int.natCast_zero, Int.lt_irrefl]
      simpa only [expQ, hf, hb] using n2 n z
  | cons x r =>
    rw [hf] at hfl
    simp only [List.length_cons] at hfl
    by_cases hb : s.busy = true ∧ pre x s.now
    · have hpre : preQ t (expQ t s) = { expQ t s with busy := false, wait := freshQ (insQ s.now (x :: r)) t } := by
        unfold preQ expQ; simp only [hf]; rw [if_pos hb]
      rw [hpre] at n2 ⊢
      simp only [expQ, hpR, bxE] at n2
      have hil : (insQ s.now (x :: r)).length = r.length + 2 := by rw [insQ, insB_len]; rfl
      refine ((s42 s.wait t hlw).and ((s25 x s.now).and ((s41 (x :: r) s.now (by simp; omega)).and (s42 (insQ s.now (x :: r)) t (by omega))))).mono fun n h ag28 z => ?_
      obtain ⟨k1, k2, k3, k4⟩ := h
      rw [hf] at k1
      have hpd : decide (x.prio = 2 ∧ s.now.prio < 2) = true := decide_eq_true hb.2
      simp only [Entry.enc, List.cons_append, List.nil_append, List.map_cons, hpd] at k1 k2 k3
      simp only [J14_5, J14_4, hpR, bxE, vv, reduceCtorEq, Nat.reduceAdd, Nat.reduceEqDiff, h2, h4, h5, k1, hb.1, (show (0 : Int) < ((r.length + 1 : Nat) : Int) by omega), List.getElem?_cons_zero, k2, k3, k4]
      exact n2 n z
    · have hpre : preQ t (expQ t s) = expQ t s := by unfold preQ expQ; simp only [hf]; rw [if_neg hb]
      rw [hpre] at n2 ⊢
      simp only [expQ, hf, hpR, bxE, List.map_cons, Entry.enc] at n2
      refine ((s42 s.wait t hlw).and (s25 x s.now)).mono fun n h ag28 z => ?_
      obtain ⟨k1, k2⟩ := h
      rw [hf] at k1
      cases hbb : s.busy with
      | true =>
        have hpd : decide (x.prio = 2 ∧ s.now.prio < 2) = false := decide_eq_false fun h => hb ⟨hbb, h⟩
        rw [hbb] at n2
        simp only [Entry.enc, List.cons_append, List.nil_append, List.map_cons, hpd] at k1 k2
        simp only [J14_5, J14_4, hpR, bxE, vv, reduceCtorEq, Nat.reduceAdd, Nat.reduceEqDiff, h2, h4, h5, k1, hbb, (show (0 : Int) < ((r.length + 1 : Nat) : Int) by omega), List.getElem?_cons_zero, k2]
        simpa only [expQ, hf, hbb] using n2 n z
      | false =>
        rw [hbb] at n2
        simp only [Entry.enc, List.map_cons] at k1
        simp only [J14_5, J14_4, hpR, bxE, vv, reduceCtorEq, Nat.reduceAdd, Nat.reduceEqDiff, h2, h4, h5, k1, hbb]
        simpa only [expQ, hf, hbb] using n2 n z
def tkStep (t : Int) (i : Nat) (w : List Entry) (a : Arr) : Rd (List Entry) (Nat × List Entry) := if a.at_ = t then .next (insQ a.e w) else .done (i, w)
theorem tk_run (t : Int) : ∀ (c : List Arr) (i : Nat) (w : List Entry), runL (tkStep t) (fun w => (i + c.length, w)) i c w = (i + (c.takeWhile fun a => decide (a.at_ = t)).length, (c.takeWhile fun a => decide (a.at_ = t)).foldl (fun w a => insQ a.e w) w)
  | [], i, w => rfl
  | a :: c, i, w => by
    unfold tkStep
    simp only [runL]
    by_cases h : a.at_ = t
    · rw [if_pos h]
      have ih := tk_run t c (i + 1) (insQ a.e w)
      unfold tkStep at ih
      simp only [List.takeWhile_cons, h, decide_true, if_true, List.length_cons, List.foldl_cons]
      rw [show i + (c.length + 1) = i + 1 + c.length by omega, ih]
      congr 1
      omega
    · rw [if_neg h]
      simp [List.takeWhile_cons, h]
theorem dw_drop {α : Type} (p : α → Bool) : ∀ (l : List α), l.dropWhile p = l.drop (l.takeWhile p).length
  | [] => rfl
  | x :: l => by
    rw [List.dropWhile_cons, List.takeWhile_cons]
    split
    · simp [dw_drop p l]
    · rfl
theorem r3 (l : List Arr) (hg : GoodA l) {rate : Int} (hr : 1 ≤ rate ∧ rate ≤ 1000) {t : Int} (ht : 0 ≤ t ∧ t ≤ 1099520016384) (s : QS) (hs : QMid l s) (p7 p14 p19 : List AV × Heap) (h1 : vI p7 2 = ((l.length - s.co.length : Nat) : Int)) (h2 : vI p14 0 = t) (h3 : vI p7 3 = s.fin) (h4 : vL p7 1 = s.wait.map Entry.enc) (h5 : vB p19 0 = s.busy) (h6 : p19.2 = hpR l s.out s.now) :
    Ev fun n => ∀ z, J14_7 n (l.map Arr.enc) p14 rate z p7 p19 = z (stR l (begQ rate t (preQ t (expQ t (takeQ t s))))) := by
  have hwl := hs.wl
  have hlen := hg.len
  have hcl : s.co.length ≤ l.length := by omega
  have hoV : oVer p19 0 = l.length := by unfold oVer; rw [h6]; rfl
  have hoE : oEs p19 0 = s.out.map encI := by unfold oEs; rw [h6]; rfl
  have hc0 : cI p19 1 0 = s.now.ticket := by unfold cI; rw [h6]; rfl
  have hc1 : cI p19 1 1 = s.now.prio := by unfold cI; rw [h6]; rfl
  have hc2 : cI p19 1 2 = s.now.exp := by unfold cI; rw [h6]; rfl
  have hc3 : cI p19 1 3 = s.now.size := by unfold cI; rw [h6]; rfl
  have htr := tk_run t s.co 0 s.wait
  simp only [Nat.zero_add] at htr
  have hstate : ∀ (k : Nat) (w : List Entry), k ≤ s.co.length → (∀ (x : Entry), x ∈ w → ValidE x) → w.length = s.wait.length + k →
      Ev fun n => ∀ ag28 z, J14_5 n ([.t (.sl 4 (w.map Entry.enc)), .t (tI ((l.length - s.co.length + k : Nat) : Int))], hpR l s.out s.now) (l.map Arr.enc) ag28 p14 rate z p7 p19 ([.t (.bool false)], hpR l s.out s.now) = z (stR l (begQ rate t (preQ t (expQ t { s with wait := w, co := s.co.drop k })))) := by
    intro k w hk hw hwlen
    refine r2 l hlen hr ht { s with wait := w, co := s.co.drop k } ⟨?_, hs.out, ?_, hw, hs.nv⟩ p7 p14 _ p19 (l.map Arr.enc) ?_ h2 h3 rfl h5
    · simp only
      exact drop_suffix hs.co (List.drop_suffix _ _)
    · simp only [List.length_drop]
      omega
    · show ((l.length - s.co.length + k : Nat) : Int) = ((l.length - (s.co.drop k).length : Nat) : Int)
      rw [List.length_drop]
      congr 1
      omega
  have key := loop_overZ (R := List Tree) (Z := List AV × Heap → Option (List Tree)) (B := fun n z p again => L14_6 n (l.map Arr.enc) p14 rate z p7 p19 p again)
    (s := (([.t (.sl 4 (s.wait.map Entry.enc)), .t (tI ((l.length - s.co.length : Nat) : Int))], hpR l s.out s.now) : List AV × Heap)) s.co
    (fun i (w : List Entry) => (([.t (.sl 4 (w.map Entry.enc)), .t (tI ((l.length - s.co.length + i : Nat) : Int))], hpR l s.out s.now) : List AV × Heap)) (tkStep t) (fun w => (s.co.length, w))
    (fun z (q : Nat × List Entry) => z (stR l (begQ rate t (preQ t (expQ t { s with wait := q.2, co := s.co.drop q.1 })))))
    (fun i w => (∀ x ∈ w, ValidE x) ∧ w.length = s.wait.length + i) s.wait rfl ⟨hs.wv, rfl⟩ htr
    (fun i w a ha hI => ?_) (fun i w a w' ha hI hw' => ?_) (fun w hI => ?_)
  · refine key.mono fun n h z => ?_
    simp only [hpR, bxE] at h
    simp only [J14_7, h1, h4, hoV, hoE, hc0, hc1, hc2, hc3]
    refine (h z).trans ?_
    unfold takeQ
    rw [dw_drop]
  · have hi := lt_of_some ha
    obtain ⟨i1, i2⟩ := hI
    have hla : l[l.length - s.co.length + i]? = some a := by
      have := ha
      rw [hs.co, List.getElem?_drop] at this
      exact this
    have hlt := lt_of_some hla
    unfold tkStep
    by_cases hat : a.at_ = t
    · rw [if_pos hat]
      refine (s41 w a.e (by omega)).mono fun n h z again => ?_
      simp only [Entry.enc] at h
      have hbe : (a.at_ == t) = true := by simpa using hat
      simp only [L14_6, J14_5, hpR, bxE, vv, reduceCtorEq, Nat.reduceAdd, Nat.reduceEqDiff, (show ((l.length - s.co.length + i : Nat) : Int) < (l.length : Int) by omega), hla, Arr.enc, h2, hbe, h, Rd.go_next, w64_succ (show l.length - s.co.length + i < 4611686018427387904 by omega)]
      rw [show l.length - s.co.length + (i + 1) = l.length - s.co.length + i + 1 by omega]
    · rw [if_neg hat]
      refine (hstate i w (by omega) i1 i2).mono fun n h z again => ?_
      have hbe : (a.at_ == t) = false := by simpa using hat
      have h' := h again z
      simp only [hpR, bxE] at h'
      simp only [L14_6, hpR, bxE, vv, reduceCtorEq, Nat.reduceAdd, Nat.reduceEqDiff, (show ((l.length - s.co.length + i : Nat) : Int) < (l.length : Int) by omega), hla, Arr.enc, h2, hbe, Rd.go_done]
      exact h'
  · have hi := lt_of_some ha
    obtain ⟨i1, i2⟩ := hI
    unfold tkStep at hw'
    split at hw'
    · simp only [Rd.next.injEq] at hw'
      subst hw'
      refine ⟨fun x hx => ?_, by rw [insQ, insB_len, i2]; rfl⟩
      rcases (insB_mem _ _ _ _).1 hx with rfl | hx
      · have : a ∈ s.co := List.mem_of_getElem? ha
        rw [hs.co] at this
        exact (hg.val a (List.mem_of_mem_drop this)).2
      · exact i1 x hx
    · cases hw'
  · obtain ⟨i1, i2⟩ := hI
    refine (hstate s.co.length w (Nat.le_refl _) i1 i2).mono fun n h z again => ?_
    have h' := h again z
    have e1 : l.length - s.co.length + s.co.length = l.length := by omega
    rw [e1] at h' ⊢
    simp only [hpR, bxE] at h'
    simp only [L14_6, hpR, bxE, vv, reduceCtorEq, Nat.reduceAdd, Nat.reduceEqDiff, Int.lt_irrefl]
    exact h'
end Ab
