/- Receiver: the law Known. -/
import Derived.Test.YthgemjameiibpaaDoorReL5
import Derived.Test.YthgemjameiibpaaDoorReL1
set_option linter.unusedVariables false
set_option linter.unusedSimpArgs false
namespace Ab
open Go

def boxR (r : Rcv) : AObj := .box [.t (tI r.ses), .t (tI r.tot), .t (.sl 2 (r.known.map Span.enc)), .t (.str r.data)]
def rowB (N : Nat) (f : Nat → Bool) : List (List Tree) := (List.range N).map fun j => [Tree.bool (f j)]
def inAt (t : Int) (x : Span) : Bool := decide (x.fro ≤ t ∧ t < x.to)
theorem inAt_any (t : Int) (l : List Span) : l.any (inAt t) = true ↔ memS t l := by rw [memS_any]; rfl
theorem rowB_get {N : Nat} {f : Nat → Bool} {j : Nat} (h : j < N) : (rowB N f)[j]? = some [Tree.bool (f j)] := by
  unfold rowB
  rw [List.getElem?_map, List.getElem?_range h]
  rfl
theorem rowB_set {N : Nat} {f : Nat → Bool} {p : Nat} : List.set (rowB N f) p [Tree.bool true] = rowB N (fun j => decide (j = p) || f j) := by
  apply List.ext_getElem?
  intro k
  unfold rowB
  rw [List.getElem?_set]
  simp only [List.getElem?_map, List.length_map, List.length_range]
  by_cases hp : p = k
  · subst hp
    by_cases hk : p < N
    · simp [hk]
    · simp [hk]
  · rw [if_neg hp]
    by_cases hk : k < N
    · have : ¬ k = p := fun e => hp e.symm
      simp [hk, this]
    · simp [hk]
theorem rowB_congr {N : Nat} {f g : Nat → Bool} (h : ∀ j, j < N → f j = g j) : rowB N f = rowB N g := by
  unfold rowB
  apply List.map_congr_left
  intro j hj
  rw [h j (List.mem_range.1 hj)]
theorem innerK (r : Rcv) (N : Nat) (f : Nat → Bool) (i : Nat) (hk : r.known.length ≤ 1000000) (q : List AV × Heap) (hq : q = ([.t (tI i)], [boxR r, .row false 0 1 (rowB N f), .box []])) :
    Ev fun n => ∀ z : List AV × Heap → Option (List Tree), loopIter (fun p again => L5_2 n q z p again) n ([.t (tI 0)], [boxR r, .row false 0 1 (rowB N f), .box [], .box []]) = z ([.t (tI (idx (inAt i) r.known))], [boxR r, .row false 0 1 (rowB N f), .box [], .box []]) := by
  subst hq
  refine loop_overZ r.known (fun j (_ : Unit) => (([.t (tI j)], [boxR r, .row false 0 1 (rowB N f), .box [], .box []]) : List AV × Heap)) (fun j (_ : Unit) x => if inAt i x = true then .done (j : Int) else .next ()) (fun _ => (-1 : Int)) (fun (z : List AV × Heap → Option (List Tree)) (k : Int) => z ([AV.t (tI k)], [boxR r, .row false 0 1 (rowB N f), .box [], .box []])) (fun _ _ => True) () rfl trivial (find_run0 (inAt i) r.known)
    (fun j s x hx hI => Ev.of fun n z again => ?_) (fun _ _ _ _ _ _ _ => trivial) (fun s hI => Ev.of fun n z again => ?_)
  · have hj := lt_of_some hx
    simp only [L5_2, J5_1, boxR, vv, reduceCtorEq, Nat.reduceAdd, Nat.reduceEqDiff, hx, Span.enc, (show (j : Int) < r.known.length by omega), w64_succ (show j < 4611686018427387904 by omega), inAt]
    by_cases h1 : x.fro ≤ i <;> by_cases h2 : (i : Int) < x.to <;> simp [h1, h2, cnd_eq, Rd.go_next, Rd.go_done, vv]
  · simp only [L5_2, boxR, vv, reduceCtorEq, Nat.reduceAdd, Nat.reduceEqDiff, Int.lt_irrefl]
theorem claim_res (ser tot : Int) (l : List Span) : ∃ (sg : Seg) (e : Int), Runs C 26 [tI 5, tI ser, tI tot, .sl 2 (l.map Span.enc)] (sg.enc ++ [tI e]) ∧ (chkG ⟨2, 5, ser, 0, tot, false, ByteArray.mk #[], l⟩ = 0 → sg = ⟨2, 5, ser, 0, tot, false, ByteArray.mk #[], l⟩ ∧ e = 0) := by
  have h := s26 5 ser tot l
  by_cases hc : chkG ⟨2, 5, ser, 0, tot, false, ByteArray.mk #[], l⟩ = 0
  · rw [if_pos hc] at h
    exact ⟨_, _, h, fun _ => ⟨rfl, rfl⟩⟩
  · rw [if_neg hc] at h
    exact ⟨_, _, h, fun h => (hc h).elim⟩
theorem innerB (D : ByteArray) (r : Rcv) (l : List Seg) (hH : Hd D r l) (hl : l ≠ []) (hD : 1 ≤ D.size ∧ D.size ≤ 900) (f : Nat → Bool) (hf : ∀ j, j < D.size → f j = decide (memS j r.known)) (x : Seg) (segs : List Seg) (hsl : segs.length ≤ 1) (hsc : ∀ y ∈ segs, y.claims.length ≤ 1000)
    (hx1 : x.chk = true → segs = [⟨2, 5, x.ser, 0, D.size, false, ByteArray.mk #[], r.known⟩] ∧ chkG ⟨2, 5, x.ser, 0, D.size, false, ByteArray.mk #[], r.known⟩ = 0) (hx0 : x.chk = false → segs = []) (i : Nat) (p7 : List AV × Heap) (hp : vI p7 1 = (i : Int)) (hi : i ≤ 1000) :
    Ev fun n => ∀ z : List AV × Heap → Option (List Tree), loopIter (fun p again => L5_5 n D x.enc (hearT (r, segs, 0)) z p7 p again) n ([.t (tI 0)], [boxR r, .row false 0 1 (rowB D.size f), .box []]) = z ([.t (tI 0), .t (tI ((i + 1 : Nat) : Int))], [boxR r, .row false 0 1 (rowB D.size f)]) := by
  obtain ⟨c1, c2, c3, c4⟩ := chkR_zero hH.ok
  have hlen := chkL_len c2.1
  have hsz := st_size hH
  rw [if_neg hl] at hsz
  refine loop_overZ (List.range D.size) (fun j (_ : Unit) => (([.t (tI j)], [boxR r, .row false 0 1 (rowB D.size f), .box []]) : List AV × Heap)) (fun j (_ : Unit) _ => .next ()) (fun _ => ()) (fun (z : List AV × Heap → Option (List Tree)) (_ : Unit) => z ([.t (tI 0), .t (tI ((i + 1 : Nat) : Int))], [boxR r, .row false 0 1 (rowB D.size f)])) (fun _ _ => True) () rfl trivial rfl
    (fun j s k hk hI => ?_) (fun _ _ _ _ _ _ _ => trivial) (fun s hI => ?_)
  · have hj := lt_of_some hk
    rw [List.length_range] at hj
    refine (innerK r D.size f j (by omega) _ rfl).mono fun n h z again => ?_
    have hid : decide (0 ≤ idx (inAt (j : Int)) r.known) = f j := by
      rw [hf j hj, Bool.eq_iff_iff, decide_eq_true_eq, decide_eq_true_eq, idx_nonneg, inAt_any]
    have hg := rowB_get (f := f) hj
    simp only [boxR] at h
    simp only [L5_5, J5_3, J5_4, boxR, vv, reduceCtorEq, Nat.reduceAdd, Nat.reduceEqDiff, (show (j : Int) < (D.size : Int) by omega), Nat.zero_add, hg, h, hid, w64_succ (show j < 4611686018427387904 by omega), byteAt_bl, hsz]
    by_cases hm : memS j r.known
    · have hfj : f j = true := by rw [hf j hj]; exact decide_eq_true hm
      have hd := hH.get j ((hH.mem j).1 hm)
      simp only [hfj, beq_self_eq_true, vv, reduceCtorEq, Nat.reduceAdd, Nat.reduceEqDiff, hd, bne_self_eq_false, Rd.go_next]
    · have hfj : f j = false := by rw [hf j hj]; exact decide_eq_false hm
      have hd : (bl r.data).getD j 0 = 0 := Classical.byContradiction fun hz => hm (c4 j (by omega) hz)
      have h0 : (((0 : UInt8).toNat : Int) != 0) = false := by decide
      simp only [hfj, beq_self_eq_true, vv, reduceCtorEq, Nat.reduceAdd, Nat.reduceEqDiff, hd, h0, Rd.go_next]
  · obtain ⟨sg, e, hrun, hres⟩ := claim_res x.ser D.size r.known
    have h18 := s18 segs [sg] (by omega) (fun y hy => by have := hsc y hy; omega)
    refine (hrun.and h18).mono fun n h z again => ?_
    obtain ⟨h1, h2⟩ := h
    simp only [Seg.enc, List.cons_append, List.nil_append, List.map_cons, List.map_nil] at h1 h2
    have e1 : gI x.enc 2 = x.ser := rfl
    have e2 : gB x.enc 5 = x.chk := rfl
    have e3 : gL (hearT (r, segs, 0)) 4 = segs.map Seg.enc := rfl
    have e4 : gI (hearT (r, segs, 0)) 5 = 0 := rfl
    simp only [L5_5, boxR, vv, reduceCtorEq, Nat.reduceAdd, Nat.reduceEqDiff, List.length_range, Int.lt_irrefl, e1, e2, e3, e4, h1, h2, hp, w64_succ (show i < 4611686018427387904 by omega)]
    cases hxc : x.chk with
    | true =>
      obtain ⟨a1, a2⟩ := hx1 hxc
      obtain ⟨b1, b2⟩ := hres a2
      subst b1
      subst b2
      simp only [a1, bne_self_eq_false, vv, reduceCtorEq, Nat.reduceAdd, Nat.reduceEqDiff]
    | false =>
      have := hx0 hxc
      subst this
      simp only [vv, reduceCtorEq, Nat.reduceAdd, Nat.reduceEqDiff, List.map_nil, List.length_nil, nc0, Int.lt_irrefl]
theorem innerA (D : ByteArray) (r : Rcv) (l : List Seg) (hH : Hd D r l) (hl : l ≠ []) (hD : 1 ≤ D.size ∧ D.size ≤ 900) (f g : Nat → Bool) (x : Seg) (hx : PieceOf D x) (hf : ∀ j, j < D.size → (decide (x.off ≤ (j : Int) ∧ (j : Int) < x.off + x.data.size) || f j) = g j) (hg : ∀ j, j < D.size → g j = decide (memS j r.known)) (segs : List Seg) (hsl : segs.length ≤ 1) (hsc : ∀ y ∈ segs, y.claims.length ≤ 1000)
    (hx1 : x.chk = true → segs = [⟨2, 5, x.ser, 0, D.size, false, ByteArray.mk #[], r.known⟩] ∧ chkG ⟨2, 5, x.ser, 0, D.size, false, ByteArray.mk #[], r.known⟩ = 0) (hx0 : x.chk = false → segs = []) (i : Nat) (p7 : List AV × Heap) (hp : vI p7 1 = (i : Int)) (hi : i ≤ 1000) :
    Ev fun n => ∀ z : List AV × Heap → Option (List Tree), loopIter (fun p again => L5_7 n x.enc D (hearT (r, segs, 0)) z p7 p again) n ([.t (tI 0)], [boxR r, .row false 0 1 (rowB D.size f), .box []]) = z ([.t (tI 0), .t (tI ((i + 1 : Nat) : Int))], [boxR r, .row false 0 1 (rowB D.size g)]) := by
  obtain ⟨b1, b2, b3, b4⟩ := piece_bounds hx
  have hsz := st_size hH
  rw [if_neg hl] at hsz
  have htot := hH.tot
  rw [if_neg hl] at htot
  have e0 : gS x.enc 6 = x.data := rfl
  have e1 : gI x.enc 3 = x.off := rfl
  have e4 : gI (hearT (r, segs, 0)) 5 = 0 := rfl
  refine loop_overZ (List.range x.data.size) (fun k (_ : Unit) => (([.t (tI k)], [boxR r, .row false 0 1 (rowB D.size (fun j => decide (x.off ≤ (j : Int) ∧ (j : Int) < x.off + (k : Nat)) || f j)), .box []]) : List AV × Heap)) (fun j (_ : Unit) _ => .next ()) (fun _ => ()) (fun (z : List AV × Heap → Option (List Tree)) (_ : Unit) => z ([.t (tI 0), .t (tI ((i + 1 : Nat) : Int))], [boxR r, .row false 0 1 (rowB D.size g)])) (fun _ _ => True) () ?_ trivial rfl
    (fun k s y hy hI => Ev.of fun n z again => ?_) (fun _ _ _ _ _ _ _ => trivial) (fun s hI => ?_)
  · have : rowB D.size f = rowB D.size (fun j => decide (x.off ≤ (j : Int) ∧ (j : Int) < x.off + ((0 : Nat) : Int)) || f j) := rowB_congr fun j _ => by
      rw [decide_eq_false (by omega), Bool.false_or]
    rw [this]
    rfl
  · have hk := lt_of_some hy
    rw [List.length_range] at hk
    have hw : w64 (x.off + (k : Int)) = x.off + (k : Int) := w64_id (by omega) (by omega)
    have hpn : (x.off + (k : Int)).toNat = x.off.toNat + k := by omega
    have hget := rowB_get (N := D.size) (f := fun j => decide (x.off ≤ (j : Int) ∧ (j : Int) < x.off + (k : Nat)) || f j) (j := x.off.toNat + k) (by omega)
    have q1 : (0 : Int) ≤ x.off + (k : Int) := by omega
    have q2 : x.off + (k : Int) < (D.size : Int) := by omega
    simp only [L5_7, boxR, vv, reduceCtorEq, Nat.reduceAdd, Nat.reduceEqDiff, e0, e1, hw, hpn, Nat.zero_add, hget, q1, q2, (show (k : Int) < (x.data.size : Int) by omega), w64_succ (show k < 4611686018427387904 by omega), Rd.go_next, Nat.le_refl, List.cons_append, List.nil_append, List.drop_succ_cons, List.drop_nil, List.append_nil]
    rw [rowB_set, rowB_congr (g := fun j => decide (x.off ≤ (j : Int) ∧ (j : Int) < x.off + ((k + 1 : Nat) : Int)) || f j) fun j _ => ?_]
    rw [← Bool.or_assoc]
    congr 1
    rw [Bool.eq_iff_iff]
    simp only [Bool.or_eq_true, decide_eq_true_eq]
    omega
  · refine (innerB D r l hH hl hD g hg x segs hsl hsc hx1 hx0 i p7 hp hi).mono fun n h z again => ?_
    have hrow : rowB D.size (fun j => decide (x.off ≤ (j : Int) ∧ (j : Int) < x.off + (x.data.size : Nat)) || f j) = rowB D.size g := rowB_congr hf
    simp only [boxR, htot] at h
    simp only [L5_7, J5_6, boxR, vv, reduceCtorEq, Nat.reduceAdd, Nat.reduceEqDiff, List.length_range, e0, Int.lt_irrefl, e4, htot, hsz, bne_self_eq_false, hrow, h]
theorem s5 (D : ByteArray) (p : List Nat) (hp : ∀ n ∈ p, n < 65536) : Runs C 5 [.str D, .sl 1 (p.map U16.enc)] [.bool true] := by
  refine Runs.of (fun m => e5 m _ _) ?_
  simp only [join_eq]
  by_cases hc : D.size = 0 ∨ 200 < D.size ∨ 30 < p.length
  · have hj : ∀ (J : List AV × Heap → Option (List Tree)), (cnd ((D == ByteArray.mk #[]) = true) (J ([AV.t (Tree.bool true)], [])) (cnd (decide ((D.size : Int) > 200) = true) (J ([AV.t (Tree.bool true)], [])) (J ([AV.t (Tree.bool (decide (((p.map U16.enc).length : Int) > 30)))], [])))) = J ([AV.t (Tree.bool true)], []) := fun J => by
      rw [size_zero]
      simp only [cnd_eq, decide_eq_true_eq, List.length_map]
      by_cases h1 : D.size = 0
      · rw [if_pos h1]
      · rw [if_neg h1]
        by_cases h2 : 200 < D.size
        · rw [if_pos (by omega)]
        · rw [if_neg (by omega), decide_eq_true (by omega)]
    refine Ev.conv' (fun m h => (hj _).trans h) ?_
    refine s10.mono fun m h => ?_
    simp only [J5_9, vv, reduceCtorEq, Nat.reduceAdd, Nat.reduceEqDiff, h]
  · have hD : 1 ≤ D.size ∧ D.size ≤ 900 := by omega
    have hj : ∀ (J : List AV × Heap → Option (List Tree)), (cnd ((D == ByteArray.mk #[]) = true) (J ([AV.t (Tree.bool true)], [])) (cnd (decide ((D.size : Int) > 200) = true) (J ([AV.t (Tree.bool true)], [])) (J ([AV.t (Tree.bool (decide (((p.map U16.enc).length : Int) > 30)))], [])))) = J ([AV.t (Tree.bool false)], []) := fun J => by
      rw [size_zero]
      simp only [cnd_eq, decide_eq_true_eq, List.length_map]
      rw [if_neg (by omega), if_neg (by omega), decide_eq_false (by omega)]
    refine Ev.conv' (fun m h => (hj _).trans h) ?_
    have hpl : p.length ≤ 30 := by omega
    simp only [J5_9, vv, reduceCtorEq, Nat.reduceAdd, Nat.reduceEqDiff]
    have hn : newR 5 = (R5, 0) := rfl
    refine Ev.rw (s11 5) (fun n h => by simp only [hn, R5, Rcv.enc, List.cons_append, List.nil_append, List.map_nil] at h; simp only [h, vv, reduceCtorEq, Nat.reduceAdd, Nat.reduceEqDiff] <;> rfl) ?_
    have k1 : (D.size : Int) ≤ 1073741824 := by omega
    simp only [k1, vv, reduceCtorEq, Nat.reduceAdd, Nat.reduceEqDiff]
    refine Ev.rw (s23 D p hD hp (by omega)) (fun m h => by simp only [h, vv, reduceCtorEq, Nat.reduceAdd, Nat.reduceEqDiff]; rfl) ?_
    have hll : (p.map (cutSeg D)).length = p.length := by simp
    have hpc : ∀ x ∈ p.map (cutSeg D), PieceOf D x := fun x hx => by
      obtain ⟨n, hn, rfl⟩ := List.mem_map.1 hx
      exact cut_piece hD (hp n hn)
    generalize p.map (cutSeg D) = l at *
    have hg : gL [Tree.sl 8 (l.map Seg.enc)] 0 = l.map Seg.enc := rfl
    refine loop_overQ (fun (b : Bool) => [Tree.bool b]) l (fun i (r : Rcv) => (([.t (tI 0), .t (tI i)], [boxR r, .row false 0 1 (rowB D.size (fun j => decide (memS j r.known)))]) : List AV × Heap)) (fun _ r x => .next (nextR r x)) (fun _ => true) (fun i r => Hd D r (l.take i)) R5 ?_ (st_start D) (runL_fold _ _ _ _ _)
      (fun i r x hx hI => ?_) (fun i r x r' hx hI h => ?_) (fun r hI => s10.mono fun n h again => ?_)
    · have : List.replicate D.size [Tree.bool false] = rowB D.size (fun j => decide (memS j R5.known)) := by
        unfold rowB
        rw [show (fun j : Nat => [Tree.bool (decide (memS (j : Int) R5.known))]) = fun _ => [Tree.bool false] from funext fun j => rfl]
        rw [List.map_const']
        simp
      rw [this]
      rfl
    · have hi := lt_of_some hx
      have hxp := hpc x (List.mem_of_getElem? hx)
      have hpre : ∀ y ∈ l.take i, PieceOf D y := fun y hy => hpc y (List.mem_of_mem_take hy)
      have hne := st_next hI hpre hxp hD.2
      have hsu := st_suits hI hpre hxp hD.2
      have hh := st_hear hI hpre hxp hD.2
      have h13 := s13 r x
      rw [hh] at h13
      have hcl : x.chk = true → chkG (claimR r x) = 0 := fun hc => claim_ok hI.ok hxp.1 hsu hc
      have hce : claimR r x = ⟨2, 5, x.ser, 0, D.size, false, ByteArray.mk #[], (nextR r x).known⟩ := by
        unfold claimR nextR
        rw [hI.ses, hxp.2.2.2.1]
      have hkl := chkR_len hne.ok
      refine (h13.and (innerA D (nextR r x) (l.take i ++ [x]) hne (by simp) hD (fun j => decide (memS j r.known)) (fun j => decide (memS j (nextR r x).known)) x hxp (fun j hj => by
          rw [Bool.eq_iff_iff]
          simp only [Bool.or_eq_true, decide_eq_true_eq]
          rw [next_mem hsu]
          exact Or.comm) (fun j hj => rfl) (if x.chk = true then [claimR r x] else []) (by split <;> simp) (fun y hy => by
          split at hy
          · simp only [List.mem_singleton] at hy
            subst hy
            rw [hce]
            exact hkl
          · cases hy) (fun hc => by rw [if_pos hc, ← hce]; exact ⟨rfl, hcl hc⟩) (fun hc => by rw [if_neg (by rw [hc]; decide)]) i ([.t (tI 0), .t (tI i)], [boxR r, .row false 0 1 (rowB D.size (fun j => decide (memS j r.known)))]) rfl (by omega))).mono fun n h again => ?_
      obtain ⟨h1, h2⟩ := h
      have hlt : (hearT (nextR r x, if x.chk = true then [claimR r x] else [], 0)).length = 6 := rfl
      generalize (if x.chk = true then [claimR r x] else []) = segs at *
      generalize nextR r x = r2 at *
      have o0 : gI (hearT (r2, segs, 0)) 0 = r2.ses := rfl
      have o1 : gI (hearT (r2, segs, 0)) 1 = r2.tot := rfl
      have o2 : gL (hearT (r2, segs, 0)) 2 = r2.known.map Span.enc := rfl
      have o3 : gS (hearT (r2, segs, 0)) 3 = r2.data := rfl
      have q0 : okI (hearT (r2, segs, 0)) 0 := by simp [hearT, vv]
      have q1 : okI (hearT (r2, segs, 0)) 1 := by simp [hearT, vv]
      have q2 : okL 2 (hearT (r2, segs, 0)) 2 := by simp [hearT, vv]
      have q3 : okS (hearT (r2, segs, 0)) 3 := by simp [hearT, vv]
      have q4 : okL 8 (hearT (r2, segs, 0)) 4 := by simp [hearT, vv]
      have q5 : okI (hearT (r2, segs, 0)) 5 := by simp [hearT, vv]
      simp only [Rcv.enc, Seg.enc, List.cons_append, List.nil_append] at h1
      simp only [boxR, Seg.enc] at h2
      simp only [L5_8, boxR, vv, reduceCtorEq, Nat.reduceAdd, Nat.reduceEqDiff, hg, hx, Seg.enc, (show (i : Int) < l.length by omega), bne_self_eq_false, h1, hlt, o0, o1, o2, o3, q0, q1, q2, q3, q4, q5, h2, Rd.go_next]
    · simp only [Rd.next.injEq] at h
      subst h
      show Hd D (nextR r x) (l.take (i + 1))
      rw [take_snoc hx]
      exact st_next hI (fun y hy => hpc y (List.mem_of_mem_take hy)) (hpc x (List.mem_of_getElem? hx)) hD.2
    · simp only [L5_8, boxR, vv, reduceCtorEq, Nat.reduceAdd, Nat.reduceEqDiff, hg, Int.lt_irrefl, beq_self_eq_true, h]
end Ab
