/- Parts of the proof: see the last text. -/
import Derived.Test.YtblkfmemhpjbgaaQuH
set_option linter.unusedVariables false
set_option linter.unusedSimpArgs false
set_option maxHeartbeats 1000000
namespace Ab
open Go


theorem markQ_get {l : List Arr} {o : List Int} (ho : o.length = l.length) {k t : Int} {i : Nat} {a : Arr} {v : Int} (ha : l[i]? = some a) (hv : o[i]? = some v) : (markQ l k t o)[i]? = some (if a.e.ticket = k then t else v) := by
  unfold markQ
  rw [List.getElem?_zipWith, ha, hv]
theorem r4 (l : List Arr) (hl : l.length ≤ 64) (t : Int) (o : List Int) (ho : o.length = l.length) (x : Entry) (p5 p14 : List AV × Heap) (h1 : sVer p5 0 = l.length) (h2 : sOff p5 0 = 0) (h3 : sLen p5 0 = l.length) (h4 : vI p14 0 = t) :
    Ev fun n => ∀ z, loopIter (fun p again => L14_1 n (l.map Arr.enc) p5 p14 z p again) n ([.t (tI 0)], hpR l o x) = z ([.t (.bool false)], hpR l (markQ l x.ticket t o) x) := by
  have hml := markQ_len (k := x.ticket) (t := t) ho
  refine loop_overZ (R := List Tree) (Z := List AV × Heap → Option (List Tree)) (B := fun n z p again => L14_1 n (l.map Arr.enc) p5 p14 z p again) (r := ()) l
    (fun i (_ : Unit) => (([.t (tI i)], hpR l ((markQ l x.ticket t o).take i ++ o.drop i) x) : List AV × Heap)) (fun _ _ _ => .next ()) (fun _ => ())
    (fun z _ => z ([.t (.bool false)], hpR l (markQ l x.ticket t o) x)) (fun _ _ => True) () rfl trivial (runL_fold (fun _ _ => ()) (fun _ => ()) 0 _ ())
    (fun i s a ha hI => Ev.of fun n z again => ?_) (fun _ _ _ _ _ _ _ => trivial) (fun s hI => Ev.of fun n z again => ?_)
  · have hi := lt_of_some ha
    have hv : o[i]? = some o[i] := List.getElem?_eq_getElem (by omega)
    have hm := markQ_get (k := x.ticket) (t := t) ho ha hv
    have hd : o.drop i = o[i] :: o.drop (i + 1) := List.drop_eq_getElem_cons (by omega)
    have htl : ((markQ l x.ticket t o).take i).length = i := by simp; omega
    have ht : (markQ l x.ticket t o).take (i + 1) = (markQ l x.ticket t o).take i ++ [if a.e.ticket = x.ticket then t else o[i]] := by rw [List.take_add_one, hm]; rfl
    have hg : (((markQ l x.ticket t o).take i ++ o.drop i).map encI)[i]? = some [tI o[i]] := by
      rw [List.getElem?_map, List.getElem?_append_right (by omega), htl, Nat.sub_self, hd]
      rfl
    by_cases hk : a.e.ticket = x.ticket
    · have hbe : (a.e.ticket == x.ticket) = true := by simpa using hk
      have hset : List.set (((markQ l x.ticket t o).take i ++ o.drop i).map encI) i [tI t] = ((markQ l x.ticket t o).take (i + 1) ++ o.drop (i + 1)).map encI := by
        rw [show ([tI t] : List Tree) = encI t from rfl, ← List.map_set]
        congr 1
        rw [List.set_append_right _ _ (by omega), htl, Nat.sub_self, hd, ht, if_pos hk]
        simp only [List.set_cons_zero, List.append_assoc, List.cons_append, List.nil_append]
      simp only [List.getElem?_map] at hg
      simp only [L14_1, hpR, bxE, vv, reduceCtorEq, Nat.reduceAdd, Nat.reduceEqDiff, h1, h2, h3, h4, ha, Arr.enc, (show (i : Int) < (l.length : Int) by omega), hbe, hg, Nat.le_refl, List.drop_succ_cons, List.append_nil, List.drop_nil, hset, w64_succ (show i < 4611686018427387904 by omega), Rd.go_next]
    · have hbe : (a.e.ticket == x.ticket) = false := by simpa using hk
      have hset : (markQ l x.ticket t o).take i ++ o.drop i = (markQ l x.ticket t o).take (i + 1) ++ o.drop (i + 1) := by
        rw [hd, ht, if_neg hk]
        simp
      simp only [L14_1, hpR, bxE, vv, reduceCtorEq, Nat.reduceAdd, Nat.reduceEqDiff, h1, h2, h3, h4, ha, Arr.enc, (show (i : Int) < (l.length : Int) by omega), hbe, hset, w64_succ (show i < 4611686018427387904 by omega), Rd.go_next]
  · have e1 : (markQ l x.ticket t o).take l.length ++ o.drop l.length = markQ l x.ticket t o := by
      rw [List.take_of_length_le (by omega), List.drop_eq_nil_of_le (by omega), List.append_nil]
    rw [e1]
    simp only [L14_1, hpR, bxE, vv, reduceCtorEq, Nat.reduceAdd, Nat.reduceEqDiff, Int.lt_irrefl]
theorem r5 (l : List Arr) (hg : GoodA l) {rate : Int} (hr : 1 ≤ rate ∧ rate ≤ 1000) {s : QS} (hs : QInv l s) {t : Int} (ht : timeQ s = some t) (p7 p5 p14 : List AV × Heap) (h0 : vB p7 0 = s.busy) (h1 : vI p7 2 = ((l.length - s.co.length : Nat) : Int)) (h2 : vI p14 0 = t) (h3 : vI p7 3 = s.fin) (h4 : vL p7 1 = s.wait.map Entry.enc) (h5 : sVer p5 0 = l.length) (h6 : sOff p5 0 = 0) (h7 : sLen p5 0 = l.length) (h8 : p14.2 = hpR l s.out s.now) :
    Ev fun n => ∀ z, J14_9 n (l.map Arr.enc) rate z p7 p5 p14 = z (stR l (stepQ l rate t s)) := by
  have hm := hs.mu hg.len
  have htb : 0 ≤ t ∧ t ≤ 1099520016384 := by
    have h := timeQ_bd hg hs ht
    refine ⟨h.1, ?_⟩
    rcases h.2 with h | ⟨hb, h⟩
    · omega
    · have := hs.fin hb
      omega
  have hoV : oVer p14 0 = l.length := by unfold oVer; rw [h8]; rfl
  have hoE : oEs p14 0 = s.out.map encI := by unfold oEs; rw [h8]; rfl
  have hc0 : cI p14 1 0 = s.now.ticket := by unfold cI; rw [h8]; rfl
  have hc1 : cI p14 1 1 = s.now.prio := by unfold cI; rw [h8]; rfl
  have hc2 : cI p14 1 2 = s.now.exp := by unfold cI; rw [h8]; rfl
  have hc3 : cI p14 1 3 = s.now.size := by unfold cI; rw [h8]; rfl
  unfold stepQ
  have hmid := hs.mid.end t
  by_cases hd : s.busy = true ∧ t = s.fin
  · have hend : endQ l t s = { s with busy := false, out := markQ l s.now.ticket t s.out } := by unfold endQ; rw [if_pos hd]
    rw [hend] at hmid ⊢
    have k1 := r3 l hg hr htb _ hmid p7 p14 ([.t (.bool false)], hpR l (markQ l s.now.ticket t s.out) s.now) h1 h2 h3 h4 rfl rfl
    have k2 := r4 l hg.len t s.out hs.out s.now p5 p14 h5 h6 h7 h2
    refine (k1.and k2).mono fun n h z => ?_
    obtain ⟨m1, m2⟩ := h
    simp only [hpR, bxE] at m2
    have hbe : (t == s.fin) = true := by simpa using hd.2
    simp only [J14_9, J14_8, vv, reduceCtorEq, Nat.reduceAdd, Nat.reduceEqDiff, h0, hd.1, h2, h3, hbe, hoV, hoE, hc0, hc1, hc2, hc3, m2]
    exact m1 z
  · have hend : endQ l t s = s := by unfold endQ; rw [if_neg hd]
    rw [hend] at hmid ⊢
    have k1 := r3 l hg hr htb s hmid p7 p14 ([.t (.bool s.busy)], hpR l s.out s.now) h1 h2 h3 h4 rfl rfl
    refine k1.mono fun n m1 z => ?_
    have m1' := m1 z
    simp only [hpR, bxE] at m1'
    cases hb : s.busy with
    | true =>
      have hbe : (t == s.fin) = false := by
        have : ¬ t = s.fin := fun h => hd ⟨hb, h⟩
        simpa using this
      rw [hb] at m1' h0
      simp only [J14_9, J14_8, vv, reduceCtorEq, Nat.reduceAdd, Nat.reduceEqDiff, h0, h2, h3, hbe, hoV, hoE, hc0, hc1, hc2, hc3]
      exact m1'
    | false =>
      rw [hb] at m1' h0
      simp only [J14_9, J14_8, vv, reduceCtorEq, Nat.reduceAdd, Nat.reduceEqDiff, h0, h2, h3, hoV, hoE, hc0, hc1, hc2, hc3]
      exact m1'
theorem r6 (l : List Arr) (hg : GoodA l) {rate : Int} (hr : 1 ≤ rate ∧ rate ≤ 1000) {s : QS} (hs : QInv l s) (p5 : List AV × Heap) (h5 : sVer p5 0 = l.length) (h6 : sOff p5 0 = 0) (h7 : sLen p5 0 = l.length) :
    Ev fun n => ∀ again, L14_12 n (l.map Arr.enc) rate p5 (stR l s) again = (roundQ l rate s).go (fun s' => again (stR l s')) (fun q => some [.sl 1 (q.map encI), tI 0]) := by
  have hwl := hs.wl
  have hcol : s.co.length ≤ l.length := by omega
  have hlen := hg.len
  cases ht : timeQ s with
  | none =>
    have : s.busy = false ∧ s.co = [] := by
      unfold timeQ at ht
      split at ht <;> first | cases ht | skip
      rename_i hb hc
      exact ⟨hb, hc⟩
    obtain ⟨hb, hc⟩ := this
    refine Ev.of fun n again => ?_
    unfold roundQ
    rw [ht]
    have e1 : List.take l.length (s.out.map encI) = s.out.map encI := List.take_of_length_le (by rw [List.length_map, hs.out]; omega)
    simp only [L14_12, J14_11, stR, hpR, bxE, hb, hc, vv, reduceCtorEq, Nat.reduceAdd, Nat.reduceEqDiff, Nat.sub_zero, Int.lt_irrefl, h5, h6, h7, e1, Rd.go_done]
  | some t =>
    have hgo : ∀ again : List AV × Heap → Option (List Tree), (roundQ l rate s).go (fun s' => again (stR l s')) (fun q => some [.sl 1 (q.map encI), tI 0]) = again (stR l (stepQ l rate t s)) := by
      intro again
      unfold roundQ
      rw [ht]
      rfl
    have k := r5 l hg hr hs ht (stR l s) p5 ([.t (tI t)], hpR l s.out s.now) rfl rfl rfl rfl rfl h5 h6 h7 rfl
    refine k.mono fun n m again => ?_
    rw [hgo]
    have m' := m again
    cases hc : s.co with
    | nil =>
      have hbt : s.busy = true ∧ t = s.fin := by
        unfold timeQ at ht
        rw [hc] at ht
        cases hb : s.busy with
        | true => rw [hb] at ht; cases ht; exact ⟨rfl, rfl⟩
        | false => rw [hb] at ht; cases ht
      obtain ⟨hb, hbt⟩ := hbt
      simp only [stR, hc, hb, hpR, bxE, List.length_nil, Nat.sub_zero] at m'
      rw [← hbt] at m'
      simp only [L14_12, J14_11, J14_10, stR, hpR, bxE, hb, hc, vv, reduceCtorEq, Nat.reduceAdd, Nat.reduceEqDiff, Nat.sub_zero, Int.lt_irrefl]
      rw [← hbt]
      exact m'
    | cons a r =>
      have hk : l[l.length - s.co.length]? = some a := by
        have h := hs.co
        have h2 := congrArg (fun m => m[0]?) h
        simp only [hc, List.getElem?_cons_zero, List.getElem?_drop, Nat.add_zero] at h2
        rw [hc]
        exact h2.symm
      have hlt : l.length - s.co.length < l.length := lt_of_some hk
      have hlt' : ((l.length - s.co.length : Nat) : Int) < (l.length : Int) := by omega
      cases hb : s.busy with
      | false =>
        have hta : t = a.at_ := by
          unfold timeQ at ht
          rw [hc, hb] at ht
          cases ht; rfl
        simp only [stR, hb, hpR, bxE] at m'
        rw [hta] at m'
        simp only [L14_12, J14_11, J14_10, stR, hpR, bxE, hb, vv, reduceCtorEq, Nat.reduceAdd, Nat.reduceEqDiff, hlt', hk, Arr.enc]
        rw [hta]
        exact m'
      | true =>
        have hta : t = if a.at_ < s.fin then a.at_ else s.fin := by
          unfold timeQ at ht
          rw [hc, hb] at ht
          cases ht; rfl
        simp only [stR, hb, hpR, bxE] at m'
        by_cases hf : a.at_ < s.fin
        · rw [if_pos hf] at hta
          rw [hta] at m'
          simp only [L14_12, J14_11, J14_10, stR, hpR, bxE, hb, vv, reduceCtorEq, Nat.reduceAdd, Nat.reduceEqDiff, hlt', hk, Arr.enc, hf]
          rw [hta]
          exact m'
        · rw [if_neg hf] at hta
          rw [hta] at m'
          simp only [L14_12, J14_11, J14_10, stR, hpR, bxE, hb, vv, reduceCtorEq, Nat.reduceAdd, Nat.reduceEqDiff, hlt', hk, Arr.enc, hf]
          rw [hta]
          exact m'
def servR (l : List Arr) (rate : Int) : List Int × Int := if checkR l rate ≠ 0 then ([], checkR l rate) else (serveQ l rate, 0)
theorem round_inv {l : List Arr} (hg : GoodA l) {rate : Int} (hr : 1 ≤ rate ∧ rate ≤ 1000) {s s' : QS} (hs : QInv l s) (hn : roundQ l rate s = .next s') : QInv l s' ∧ muQ s' < muQ s := by
  refine ⟨?_, round_mu hn⟩
  unfold roundQ at hn
  split at hn
  · cases hn
  · rename_i t ht
    cases hn
    exact hs.step hg hr ht
theorem s14w (l : List Arr) (hg : GoodA l) {rate : Int} (hr : 1 ≤ rate ∧ rate ≤ 1000) (p5 : List AV × Heap) (h5 : sVer p5 0 = l.length) (h6 : sOff p5 0 = 0) (h7 : sLen p5 0 = l.length) :
    Ev fun n => loopIter (fun p again => L14_12 n (l.map Arr.enc) rate p5 p again) n (stR l (startQ l)) = some [.sl 1 ((serveQ l rate).map encI), tI 0] := by
  have hst : ∀ s, QInv l s → Ev fun n => ∀ again, L14_12 n (l.map Arr.enc) rate p5 (stR l s) again = (roundQ l rate s).go (fun s' => again (stR l s')) (fun q => some ((fun (q : List Int) => [Tree.sl 1 (q.map encI), tI 0]) q)) := fun s hs => r6 l hg hr hs p5 h5 h6 h7
  exact while_overQ (R := List Tree) (B := fun n p again => L14_12 n (l.map Arr.enc) rate p5 p again) (s := stR l (startQ l)) (r := serveQ l rate) (fun q => [Tree.sl 1 (q.map encI), tI 0]) (stR l) (roundQ l rate) (QInv l) muQ (runQ l rate) (startQ l) rfl QInv.start rfl hst
    (fun s s' hs hn => round_inv hg hr hs hn) (fun s hs => runQ_eq l rate s)
theorem s14 (l : List Arr) (rate : Int) (hl : l.length ≤ 1000000) : Runs C 14 [.sl 5 (l.map Arr.enc), tI rate] [.sl 1 ((servR l rate).1.map encI), tI (servR l rate).2] := by
  refine Runs.of (fun n => e14 n _ _) ?_
  unfold servR checkR
  by_cases r1 : rate < 1
  · refine Ev.of fun n => ?_
    simp [r1, cnd_eq, J14_14, join_eq, vB, boolOf, treeOf]
  by_cases r2 : 1000 < rate
  · refine Ev.of fun n => ?_
    simp [r1, r2, cnd_eq, J14_14, join_eq, vB, boolOf, treeOf]
  rw [if_neg (show ¬ (rate < 1 ∨ 1000 < rate) by omega)]
  by_cases hc : checkA l = 0
  · have hg := (checkA_zero l).1 hc
    have hlen := hg.len
    refine Ev.rw (T' := ?TT) (s40 l hl) (fun k h => ?g1) ?g2
    case g1 =>
      simp only [J14_14, r1, r2, vv, reduceCtorEq, Nat.reduceAdd, Nat.reduceEqDiff, h, hc, bne_self_eq_false]
      rfl
    case g2 =>
      simp only [hc, ne_eq, not_true, if_false]
      have key := s14w l hg (rate := rate) (by omega) ([.sref 0 l.length 0 l.length, .t (tI l.length)], [.row false l.length 1 ((List.replicate l.length (-1)).map encI)]) rfl rfl rfl
      refine loop_overQ (fun (q : List Int) => [Tree.sl 1 (q.map encI), tI 0]) l (fun i (_ : Unit) => (([.sref 0 i 0 i, .t (tI i)], [.row false i 1 ((List.replicate i (-1)).map encI)]) : List AV × Heap)) (fun _ _ _ => .next ()) (fun _ => serveQ l rate) (fun _ _ => True) () rfl trivial (runL_fold (fun _ _ => ()) (fun _ => serveQ l rate) 0 _ ())
        (fun i s a ha hI => Ev.of fun n again => ?_) (fun _ _ _ _ _ _ _ => trivial) (fun s hI => ?_)
      · have hi := lt_of_some ha
        have e1 : List.take i ((List.replicate i (-1 : Int)).map encI) = (List.replicate i (-1)).map encI := List.take_of_length_le (by simp)
        simp only [L14_13, vv, reduceCtorEq, Nat.reduceAdd, Nat.reduceEqDiff, (show (i : Int) < (l.length : Int) by omega), List.length_replicate, Nat.le_refl, (show i + 1 ≤ 1073741824 by omega), e1, w64_succ (show i < 4611686018427387904 by omega), Rd.go_next]
        rw [List.replicate_succ', List.map_append]
        rfl
      · refine key.mono fun n h again => ?_
        simp only [L14_13, vv, reduceCtorEq, Nat.reduceAdd, Nat.reduceEqDiff, Int.lt_irrefl]
        refine Eq.trans ?_ h
        simp only [stR, startQ, zeroE, hpR, bxE, Nat.sub_self, List.map_nil, Int.natCast_zero]
  · refine (s40 l hl).mono fun n h => ?_
    have : (checkA l != 0) = true := by simp [hc]
    simp only [J14_14, r1, r2, vv, reduceCtorEq, Nat.reduceAdd, Nat.reduceEqDiff, h, this]
    simp [hc]
end Ab

set_option linter.unusedVariables false
set_option linter.unusedSimpArgs false
set_option maxHeartbeats 1000000
namespace Ab
open Go


/-! ### the program's order of what waits -/
def takeP (t : Int) (s : QS) : QS := { s with wait := s.wait ++ (s.co.takeWhile fun a => decide (a.at_ = t)).map Arr.e, co := s.co.dropWhile fun a => decide (a.at_ = t) }
def preP (t : Int) (s : QS) : QS := if s.busy = true ∧ (s.wait.any fun x => decide (pre x s.now)) = true then { s with busy := false, wait := freshQ (s.wait ++ [s.now]) t } else s
def minE : List Entry → Entry
  | [] => zeroE
  | x :: r => r.foldl (fun m y => if ahead y m = true then y else m) x
def begP (rate t : Int) (s : QS) : QS := if s.busy = true ∨ s.wait = [] then s else { s with now := minE s.wait, wait := removeQ s.wait (minE s.wait).ticket, busy := true, fin := t + durQ rate (minE s.wait) }
def stepP (l : List Arr) (rate t : Int) (s : QS) : QS := begP rate t (preP t (expQ t (takeP t (endQ l t s))))

/-! ### states -/
abbrev bxS (rate : Int) (s : QS) (v : Nat) : AObj := .box [.t (tI rate), .t (.sl 5 (s.co.map Arr.enc)), .sref 3 v 0 s.wait.length, .t (.bool s.busy), .t (tI s.now.ticket), .t (tI s.now.prio), .t (tI s.now.exp), .t (tI s.now.size), .t (tI s.fin)]
def hP (rate : Int) (s : QS) (v : Nat) (es : List (List Tree)) : Heap := [.row false 0 1 (s.out.map encI), .row false 0 1 [], .box [.sref 0 0 0 s.out.length], .row false v 4 es, bxS rate s v, .box [.ptr 4 0], .box []]
def hP1 (rate : Int) (s : QS) (v : Nat) (es : List (List Tree)) : Heap := [.row false 0 1 (s.out.map encI), .row false 0 1 [], .box [.sref 0 0 0 s.out.length], .row false v 4 es, bxS rate s v, .box [.ptr 4 0], .box [], .box [.ptr 4 0]]
/-- A row whose first cells hold what waits. -/
def Holds (w : List Entry) (es : List (List Tree)) : Prop := ∃ ex, es = w.map Entry.enc ++ ex
theorem Holds.get {w : List Entry} {es : List (List Tree)} (h : Holds w es) {i : Nat} {x : Entry} (hx : w[i]? = some x) : es[i]? = some x.enc := by
  obtain ⟨ex, rfl⟩ := h
  have hi := lt_of_some hx
  rw [List.getElem?_append_left (by simpa using hi), List.getElem?_map, hx]
  rfl
theorem Holds.take {w : List Entry} {es : List (List Tree)} (h : Holds w es) : List.take w.length es = w.map Entry.enc := by
  obtain ⟨ex, rfl⟩ := h
  rw [List.take_append_of_le_length (by simp), List.take_of_length_le (by simp)]
theorem Holds.len {w : List Entry} {es : List (List Tree)} (h : Holds w es) : w.length ≤ es.length := by
  obtain ⟨ex, rfl⟩ := h
  simp
theorem Holds.self (w : List Entry) : Holds w (w.map Entry.enc) := ⟨[], by simp⟩

/-! ### the beginning of a transmission -/
theorem minE_mem : ∀ (w : List Entry) (m : Entry), w.foldl (fun m y => if ahead y m = true then y else m) m = m ∨ w.foldl (fun m y => if ahead y m = true then y else m) m ∈ w
  | [], m => .inl rfl
  | x :: w, m => by
    rw [List.foldl_cons]
    split
    · rcases minE_mem w x with h | h
      · right; rw [h]; simp
      · right; simp [h]
    · rcases minE_mem w m with h | h
      · exact .inl h
      · right; simp [h]
theorem minE_in {w : List Entry} (h : w ≠ []) : minE w ∈ w := by
  cases w with
  | nil => exact absurd rfl h
  | cons x r =>
    show r.foldl (fun m y => if ahead y m = true then y else m) x ∈ x :: r
    rcases minE_mem r x with h | h
    · rw [h]; simp
    · simp [h]
theorem min_fold (x : Entry) (r : List Entry) (i : Nat) (y : Entry) (h : (x :: r)[i + 1]? = some y) : minE ((x :: r).take (i + 2)) = if ahead y (minE ((x :: r).take (i + 1))) = true then y else minE ((x :: r).take (i + 1)) := by
  have hr : r[i]? = some y := by simpa using h
  simp only [List.take_succ_cons, minE]
  have : r.take (i + 1) = r.take i ++ [y] := by rw [List.take_add_one, hr]; rfl
  rw [this, List.foldl_append]
  rfl
theorem p5 (l : List Arr) (hl : l.length ≤ 64) {rate : Int} (hr : 1 ≤ rate ∧ rate ≤ 1000) {t : Int} (ht : 0 ≤ t ∧ t ≤ 1099520016384) (s : QS) (hs : QMid l s) (v : Nat) (es : List (List Tree)) (he : Holds s.wait es) (p6 : List AV × Heap) (h6 : vI p6 0 = t) :
    ∃ v' es', Holds (begP rate t s).wait es' ∧ Ev fun n => ∀ z, J13_21 n z p6 ([], hP1 rate s v es) = z ([], hP rate (begP rate t s) v' es') := by
  have hwl := hs.wl
  cases hb : s.busy with
  | true =>
    have : begP rate t s = s := by unfold begP; rw [if_pos (.inl hb)]
    rw [this]
    refine ⟨v, es, he, Ev.of fun n z => ?_⟩
    simp only [J13_21, J13_20, J13_19, hP, hP1, bxS, vv, reduceCtorEq, Nat.reduceAdd, Nat.reduceEqDiff, hb]
  | false =>
    cases hw : s.wait with
    | nil =>
      have : begP rate t s = s := by unfold begP; rw [if_pos (.inr hw)]
      rw [this]
      refine ⟨v, es, by rw [hw] at he ⊢; exact he, Ev.of fun n z => ?_⟩
      simp only [J13_21, J13_20, J13_19, hP, hP1, bxS, vv, reduceCtorEq, Nat.reduceAdd, Nat.reduceEqDiff, hb, hw, Int.natCast_zero, Int.lt_irrefl]
    | cons x r =>
      have hne : s.wait ≠ [] := by rw [hw]; simp
      have hbeg : begP rate t s = { s with now := minE s.wait, wait := removeQ s.wait (minE s.wait).ticket, busy := true, fin := t + durQ rate (minE s.wait) } := by unfold begP; rw [if_neg (by simp [hb, hne])]
      rw [hbeg]
      refine ⟨v + 1, (removeQ s.wait (minE s.wait).ticket).map Entry.enc, Holds.self _, ?_⟩
      have hm : ValidE (minE s.wait) := hs.wv _ (minE_in hne)
      obtain ⟨d1, d2, d3⟩ := dur_bd hr hm
      have hsz := hm
      unfold ValidE at hsz
      have w1 : w64 ((minE s.wait).size + rate) = (minE s.wait).size + rate := w64_id (by omega) (by omega)
      have w2 : w64 ((minE s.wait).size + rate - 1) = (minE s.wait).size + rate - 1 := w64_id (by omega) (by omega)
      have w3 : w64 (durQ rate (minE s.wait)) = durQ rate (minE s.wait) := w64_id (by omega) (by omega)
      have w4 : w64 (t + durQ rate (minE s.wait)) = t + durQ rate (minE s.wait) := w64_id (by omega) (by omega)
      have hlen : s.wait.length = r.length + 1 := by rw [hw]; rfl
      have hx0 : s.wait[0]? = some x := by rw [hw]; rfl
      have g0 := he.get hx0
      have htk := he.take
      have key := loop_overZ (R := List Tree) (Z := List AV × Heap → Option (List Tree)) (B := fun n z p again => L13_17 n ([.t (.bool true)], hP1 rate s v es) z p again) (r := ())
        (s := (([.t (tI 1)], hP1 rate s v es ++ [.box [.t (tI 0), .t (tI 0), .t (tI 0), .t (tI 0)], bxE x]) : List AV × Heap)) r
        (fun i (_ : Unit) => (([.t (tI ((i + 1 : Nat) : Int))], hP1 rate s v es ++ [.box [.t (tI 0), .t (tI 0), .t (tI 0), .t (tI 0)], bxE (minE (s.wait.take (i + 1)))]) : List AV × Heap)) (fun _ _ _ => .next ()) (fun _ => ())
        (fun z _ => z ([.t (tI (minE s.wait).ticket), .t (tI (minE s.wait).prio), .t (tI (minE s.wait).exp), .t (tI (minE s.wait).size)], hP1 rate s v es)) (fun _ _ => True) () (by rw [hw]; rfl) trivial (runL_fold (fun _ _ => ()) (fun _ => ()) 0 _ ())
        (fun i u y hy hI => ?_) (fun _ _ _ _ _ _ _ => trivial) (fun u hI => Ev.of fun n z again => ?_)
      · refine (key.and (s1000029 s.wait (minE s.wait).ticket (by omega))).mono fun n h z => ?_
        obtain ⟨k1, k2⟩ := h
        simp only [hP1, bxS, bxE, hb, List.cons_append, List.nil_append] at k1
        simp only [Entry.enc] at g0
        simp only [J13_21, J13_20, J13_19, J13_18, hP, hP1, bxS, vv, reduceCtorEq, Nat.reduceAdd, Nat.reduceEqDiff, hb, (show (0 : Int) < (s.wait.length : Int) by omega), (show ¬ (s.wait.length : Int) < 1 by omega), g0, Int.le_refl, k1, htk, k2, (show ¬ rate = 0 by omega), w1, w2, d3, w3, w4, h6]
      · have hi := lt_of_some hy
        have hy2 : s.wait[i + 1]? = some y := by rw [hw]; simpa using hy
        have g := he.get hy2
        have hmf := min_fold x r i y (by simpa using hy)
        rw [← hw] at hmf
        refine (s46 y (minE (s.wait.take (i + 1)))).mono fun n h z again => ?_
        simp only [Entry.enc, List.cons_append, List.nil_append] at h g
        have hc := cmpE_neg y (minE (s.wait.take (i + 1)))
        simp only [L13_17, J13_16, hP1, bxS, bxE, vv, reduceCtorEq, Nat.reduceAdd, Nat.reduceEqDiff, List.cons_append, List.nil_append, (show ((i + 1 : Nat) : Int) < (s.wait.length : Int) by omega), g, h, w64_succ (show i + 1 < 4611686018427387904 by omega), Rd.go_next, hmf]
        cases ha : ahead y (minE (s.wait.take (i + 1))) with
        | true =>
          have := hc.2 ha
          simp only [this, vv, reduceCtorEq, Nat.reduceAdd, Nat.reduceEqDiff]
        | false =>
          have : ¬ cmpE y (minE (s.wait.take (i + 1))) < 0 := fun hh => by rw [hc.1 hh] at ha; cases ha
          simp only [this, vv, reduceCtorEq, Nat.reduceAdd, Nat.reduceEqDiff]
      · have e1 : s.wait.take (r.length + 1) = s.wait := List.take_of_length_le (by omega)
        rw [e1]
        simp only [L13_17, hP1, bxS, bxE, vv, reduceCtorEq, Nat.reduceAdd, Nat.reduceEqDiff, List.cons_append, List.nil_append, hlen, Int.lt_irrefl]
end Ab

set_option linter.unusedVariables false
set_option linter.unusedSimpArgs false
set_option maxHeartbeats 1000000
namespace Ab
open Go


def zE : List Tree := [tI 0, tI 0, tI 0, tI 0]
theorem rowFin {es : List Entry} {ex : List (List Tree)} {i L : Nat} (h : es.length = L) (hi : i ≤ L) : rowSet (es.map Entry.enc ++ ex) i (List.replicate (L - i) zE) = (es.take i).map Entry.enc ++ (List.replicate (L - i) zE ++ ex) := by
  unfold rowSet
  rw [List.length_replicate, show i + (L - i) = L by omega, List.take_append_of_le_length (by simp; omega), List.drop_append, List.drop_eq_nil_of_le (by simp; omega), List.length_map, h, Nat.sub_self, List.drop_zero, List.nil_append, List.map_take, List.append_assoc]
theorem fresh_eq (l : List Entry) (t : Int) : freshQ l t = l.filter fun x => !decide (x.exp ≤ t) := by
  unfold freshQ
  congr 1
  funext x
  have : x.exp > t ↔ ¬ x.exp ≤ t := by omega
  rw [decide_eq_decide.2 this, decide_not]
/-- What expires behind an interruption. -/
theorem x2 {rate t : Int} (s : QS) (v : Nat) (es : List (List Tree)) (hl : s.wait.length ≤ 64) (p6 : List AV × Heap) (h6 : vI p6 0 = t) :
    ∃ es', Holds (freshQ (s.wait ++ [s.now]) t) es' ∧ Ev fun n => ∀ z, loopIter (fun p again => L13_11 n ([.t (.bool true)], hP1 rate s v es) p6 (fun q => J13_14 n z ([.t (.bool true)], hP1 rate s v es) p6 q) p again) n ([.t (tI 0)], hP1 rate { s with busy := false, wait := s.wait ++ [s.now] } (v + 1) ((s.wait ++ [s.now]).map Entry.enc))
      = z ([], hP1 rate { s with busy := false, wait := freshQ (s.wait ++ [s.now]) t } (v + 1) es') := by
  have hWl : (s.wait ++ [s.now]).length = s.wait.length + 1 := by simp
  have k1 := loop_overZ (R := List Tree) (Z := List AV × Heap → Option (List Tree)) (B := fun n z p again => L13_11 n ([.t (.bool true)], hP1 rate s v es) p6 z p again) (s := (([.t (tI 0)], hP1 rate { s with busy := false, wait := s.wait ++ [s.now] } (v + 1) ((s.wait ++ [s.now]).map Entry.enc)) : List AV × Heap)) (s.wait ++ [s.now])
    (fun i (_ : Unit) => (([.t (tI i)], hP1 rate { s with busy := false, wait := s.wait ++ [s.now] } (v + 1) ((s.wait ++ [s.now]).map Entry.enc)) : List AV × Heap))
    (fun i _ x => if decide (x.exp ≤ t) = true then .done (i : Int) else .next ()) (fun _ => -1) (fun z (q : Int) => z ([.t (tI q)], hP1 rate { s with busy := false, wait := s.wait ++ [s.now] } (v + 1) ((s.wait ++ [s.now]).map Entry.enc))) (fun _ _ => True) () rfl trivial (find_run0 _ _)
    (fun i u x hx hI => Ev.of fun n z again => ?_) (fun _ _ _ _ _ _ _ => trivial) (fun u hI => Ev.of fun n z again => ?_)
  · rw [fresh_eq]
    generalize s.wait ++ [s.now] = W at hWl k1 ⊢
    rcases idx_cases (fun x : Entry => decide (x.exp ≤ t)) W with ⟨hi, hn⟩ | ⟨i, x, hi, hx, hp, hb⟩
    · rw [hi] at k1
      have e2 : W.filter (fun x => !decide (x.exp ≤ t)) = W := filter_none fun j y _ hy => hn y (List.mem_of_getElem? hy)
      rw [e2]
      refine ⟨W.map Entry.enc, Holds.self _, k1.mono fun n h z => ?_⟩
      rw [h]
      simp only [J13_14, hP1, bxS, vv, reduceCtorEq, Nat.reduceAdd, Nat.reduceEqDiff, beq_self_eq_true, hWl]
    · rw [hi] at k1
      have hil := lt_of_some hx
      refine ⟨(W.filter (fun x => !decide (x.exp ≤ t))).map Entry.enc ++ List.replicate (W.length - (W.filter (fun x => !decide (x.exp ≤ t))).length) zE, ⟨_, rfl⟩, ?_⟩
      have k2 := del_overZ (R := List Tree) (Z := List AV × Heap → Option (List Tree)) (B := fun n z p again => L13_13 n ([.t (.bool true)], hP1 rate s v es) p6 z p again)
        (fun z (r : List Entry) => z ([], hP1 rate { s with busy := false, wait := r } (v + 1) (r.map Entry.enc ++ List.replicate (W.length - r.length) zE))) (fun x => decide (x.exp ≤ t)) W
        (fun (d : DS Entry) => (([.t (tI d.i), .t (tI d.j)], hP1 rate { s with busy := false, wait := W } (v + 1) (d.es.map Entry.enc)) : List AV × Heap)) ⟨i, i + 1, W⟩ rfl (DInv.start hx hp hb) (fun d hD => Ev.of fun n z again => ?_)
      · refine (k1.and k2).mono fun n h z => ?_
        rw [h.1]
        have h2 := h.2 z
        simp only [hP1, bxS] at h2
        simp only [J13_14, hP1, bxS, vv, reduceCtorEq, Nat.reduceAdd, Nat.reduceEqDiff, (show (((i : Nat) : Int) == -1) = false by simp), w64_succ (show i < 4611686018427387904 by omega)]
        exact h2
      · have hat := hD.at
        obtain ⟨i', j, es1⟩ := d
        obtain ⟨d1, d2, d3, d4, d5⟩ := hD
        simp only at d1 d2 d3 d4 d5 hat
        unfold dstep
        simp only
        cases hy : W[j]? with
        | none =>
          have hj : W.length ≤ j := by simpa using hy
          have hrf := rowFin (ex := []) (i := i') d3 (by omega)
          simp only [List.append_nil] at hrf
          have htl : (es1.take i').length = i' := by simp; omega
          have hlen2 : (rowSet (es1.map Entry.enc) i' (List.replicate (W.length - i') zE)).length = W.length := by rw [hrf]; simp; omega
          simp only [zE] at hrf hlen2
          simp only [L13_13, hP1, bxS, vv, reduceCtorEq, Nat.reduceAdd, Nat.reduceEqDiff, ← hWl, (show ¬ (j : Int) < (W.length : Int) by omega), d3, (show (i' : Int) ≤ (W.length : Int) by omega), (show i' < W.length by omega), hlen2, (show 0 < W.length by omega), Rd.go_done, htl, zE]
          rw [hrf]
        | some y =>
          have hj := lt_of_some hy
          have hi2 : es1[i']? = some es1[i'] := List.getElem?_eq_getElem (by omega)
          have hset : List.set (es1.map Entry.enc) i' y.enc = (es1.set i' y).map Entry.enc := by rw [← List.map_set]
          simp only [Entry.enc] at hset
          simp only [L13_13, J13_12, hP1, bxS, vv, reduceCtorEq, Nat.reduceAdd, Nat.reduceEqDiff, ← hWl, (show (j : Int) < (W.length : Int) by omega), hat, hy, hi2, Entry.enc, h6, (show (i' : Int) < (W.length : Int) by omega), Nat.le_refl, w64_succ (show i' < 4611686018427387904 by omega), w64_succ (show j < 4611686018427387904 by omega), List.drop_succ_cons, List.append_nil, List.drop_nil, List.cons_append, List.nil_append]
          by_cases hpy : y.exp ≤ t
          · simp only [hpy, vv, reduceCtorEq, Nat.reduceAdd, Nat.reduceEqDiff, Rd.go_next]
          · simp only [hpy, vv, reduceCtorEq, Nat.reduceAdd, Nat.reduceEqDiff, Rd.go_next, hset]
  · have hi := lt_of_some hx
    have hx2 : ((s.wait ++ [s.now]).map Entry.enc)[i]? = some x.enc := by rw [List.getElem?_map, hx]; rfl
    simp only [Entry.enc] at hx2
    have hi3 : (i : Int) < ((s.wait.length + 1 : Nat) : Int) := by omega
    simp only [L13_11, hP1, bxS, vv, reduceCtorEq, Nat.reduceAdd, Nat.reduceEqDiff, hi3, hx, hx2, Entry.enc, h6, w64_succ (show i < 4611686018427387904 by omega)]
    by_cases h : x.exp ≤ t
    · simp only [h, vv, reduceCtorEq, Nat.reduceAdd, Nat.reduceEqDiff, Rd.go_done]
    · simp only [h, vv, reduceCtorEq, Nat.reduceAdd, Nat.reduceEqDiff, Rd.go_next]
  · simp only [L13_11, hP1, bxS, vv, reduceCtorEq, Nat.reduceAdd, Nat.reduceEqDiff, hWl, Int.lt_irrefl]
/-- Interruptions. -/
theorem p4 (l : List Arr) (hl : l.length ≤ 64) {rate : Int} (hr : 1 ≤ rate ∧ rate ≤ 1000) {t : Int} (ht : 0 ≤ t ∧ t ≤ 1099520016384) (s : QS) (hs : QMid l s) (v : Nat) (es : List (List Tree)) (he : Holds s.wait es) (p6 : List AV × Heap) (h6 : vI p6 0 = t) :
    ∃ v' es', Holds (begP rate t (preP t s)).wait es' ∧ Ev fun n => ∀ z, J13_23 n z p6 ([], hP1 rate s v es) = z ([], hP rate (begP rate t (preP t s)) v' es') := by
  have hwl := hs.wl
  cases hb : s.busy with
  | false =>
    have : preP t s = s := by unfold preP; rw [if_neg (by simp [hb])]
    rw [this]
    obtain ⟨v', es', q1, q2⟩ := p5 l hl hr ht s hs v es he p6 h6
    refine ⟨v', es', q1, q2.mono fun n h z => ?_⟩
    have h' := h z
    simp only [hP1, bxS, hb] at h'
    simp only [J13_23, J13_22, hP1, bxS, hb, vv, reduceCtorEq, Nat.reduceAdd, Nat.reduceEqDiff]
    exact h'
  | true =>
    have k1 := loop_overZ (R := List Tree) (Z := List AV × Heap → Option (List Tree)) (B := fun n z p again => L13_8 n ([], hP1 rate s v es) z p again) (s := (([.t (tI 0)], hP1 rate s v es) : List AV × Heap)) s.wait
      (fun i (_ : Unit) => (([.t (tI i)], hP1 rate s v es) : List AV × Heap))
      (fun i _ x => if decide (pre x s.now) = true then .done (i : Int) else .next ()) (fun _ => -1) (fun z (q : Int) => z ([.t (tI q)], hP1 rate s v es)) (fun _ _ => True) () rfl trivial (find_run0 _ _)
      (fun i u x hx hI => ?_) (fun _ _ _ _ _ _ _ => trivial) (fun u hI => Ev.of fun n z again => ?_)
    · have hix := idx_nonneg (fun x : Entry => decide (pre x s.now)) s.wait
      cases ha : (s.wait.any fun x => decide (pre x s.now)) with
      | false =>
        have : preP t s = s := by unfold preP; rw [if_neg (by simp [ha])]
        rw [this]
        obtain ⟨v', es', q1, q2⟩ := p5 l hl hr ht s hs v es he p6 h6
        refine ⟨v', es', q1, (k1.and q2).mono fun n h z => ?_⟩
        have h2 := h.2 z
        have h1 := h.1
        have hn : ¬ 0 ≤ idx (fun x : Entry => decide (pre x s.now)) s.wait := fun hh => by rw [hix.1 hh] at ha; cases ha
        simp only [hP1, bxS, hb] at h1 h2
        simp only [J13_23, J13_22, J13_10, J13_9, hP1, bxS, hb, vv, reduceCtorEq, Nat.reduceAdd, Nat.reduceEqDiff, h1, hn]
        exact h2
      | true =>
        have hpre : preP t s = { s with busy := false, wait := freshQ (s.wait ++ [s.now]) t } := by unfold preP; rw [if_pos ⟨hb, ha⟩]
        rw [hpre]
        have hmid : QMid l { s with busy := false, wait := freshQ (s.wait ++ [s.now]) t } := by
          refine ⟨hs.co, hs.out, ?_, fun x hx => ?_, fun h => by cases h⟩
          · have := fresh_len (s.wait ++ [s.now]) t
            rw [hb] at hwl
            simp only [List.length_append, List.length_cons, List.length_nil, Bool.toNat_true, Bool.toNat_false] at *
            omega
          · have := (List.mem_filter.1 hx).1
            rw [List.mem_append, List.mem_singleton] at this
            rcases this with h | rfl
            · exact hs.wv x h
            · exact hs.nv hb
        obtain ⟨es1, q1, q2⟩ := x2 (rate := rate) s v es (by omega) p6 h6
        obtain ⟨v', es', q3, q4⟩ := p5 l hl hr ht _ hmid (v + 1) es1 q1 p6 h6
        refine ⟨v', es', q3, (k1.and (q2.and q4)).mono fun n h z => ?_⟩
        obtain ⟨h1, h2, h3⟩ := h
        have hn : 0 ≤ idx (fun x : Entry => decide (pre x s.now)) s.wait := hix.2 ha
        have h3' := h3 z
        have h2' := h2 fun p63 => J13_15 n (fun p61 => J13_21 n z p6 p61) p63
        have htk := he.take
        simp only [hP1, bxS, hb] at h1 h2' h3'
        simp only [J13_23, J13_22, J13_10, J13_9, hP1, bxS, hb, vv, reduceCtorEq, Nat.reduceAdd, Nat.reduceEqDiff, h1, hn, he.len, (show s.wait.length + 1 ≤ 1073741824 by omega), htk]
        simp only [List.map_append, List.map_cons, List.map_nil, Entry.enc, List.length_append, List.length_cons, List.length_nil, Nat.zero_add] at h2'
        refine h2'.trans ?_
        simp only [J13_15, vv, reduceCtorEq, Nat.reduceAdd, Nat.reduceEqDiff]
        exact h3'
    · have hi := lt_of_some hx
      have g := he.get hx
      refine (s24 x s.now).mono fun n h z again => ?_
      simp only [Entry.enc, List.cons_append, List.nil_append] at h g
      simp only [L13_8, hP1, bxS, vv, reduceCtorEq, Nat.reduceAdd, Nat.reduceEqDiff, (show (i : Int) < (s.wait.length : Int) by omega), g, h, w64_succ (show i < 4611686018427387904 by omega)]
      by_cases hpx : pre x s.now
      · have : x.prio = 2 ∧ s.now.prio < 2 := hpx
        simp only [hpx, this, vv, reduceCtorEq, Nat.reduceAdd, Nat.reduceEqDiff, Rd.go_done, and_self]
      · have : ¬ (x.prio = 2 ∧ s.now.prio < 2) := hpx
        simp only [hpx, this, vv, reduceCtorEq, Nat.reduceAdd, Nat.reduceEqDiff, Rd.go_next]
    · simp only [L13_8, hP1, bxS, vv, reduceCtorEq, Nat.reduceAdd, Nat.reduceEqDiff, Int.lt_irrefl]
end Ab
