/- Parts of the proof: see the last text. -/
import Derived.Test.YtdgkjmcggiihgaaSeF
set_option linter.unusedVariables false
set_option linter.unusedSimpArgs false
namespace Ab
open Go
theorem sd_next (a : List Span) (i : Nat) (xi : Bool) : (⟨a.drop i, xi⟩ : Sd).next = nx a i xi := by
  unfold Sd.next nx
  have : (a.drop i)[0]? = a[i]? := by rw [List.getElem?_drop]; simp
  cases h : a.drop i with
  | nil =>
    rw [h] at this
    have hx : a[i]? = none := this.symm
    rw [hx]
  | cons x l =>
    rw [h] at this
    have hx : a[i]? = some x := this.symm
    rw [hx]
theorem sd_pass (a : List Span) (i : Nat) (xi : Bool) (t : Int) : (⟨a.drop i, xi⟩ : Sd).pass t = ⟨a.drop (pi_ a i xi t), pb a i xi t⟩ := by
  unfold Sd.pass pi_ pb
  rw [sd_next]
  by_cases h : nx a i xi = some t
  · cases xi <;> simp [h, List.drop_drop]
  · simp [h]
theorem nx_lt {a : List Span} {i : Nat} {xi : Bool} {t : Int} (h : nx a i xi = some t) : i < a.length := by
  unfold nx at h
  split at h
  · cases h
  · rename_i x hx; exact lt_of_some hx
theorem nx_none {a : List Span} {i : Nat} {xi : Bool} (h : nx a i xi = none) : a.length ≤ i := by
  unfold nx at h
  split at h
  · rename_i hx; exact List.getElem?_eq_none_iff.1 hx
  · cases h
theorem pi_le {a : List Span} {i : Nat} {xi : Bool} {t : Int} (hi : i ≤ a.length) (he : i = a.length → xi = false) : pi_ a i xi t ≤ a.length ∧ (pi_ a i xi t = a.length → pb a i xi t = false) := by
  unfold pi_ pb
  by_cases h : nx a i xi = some t
  · have := nx_lt h
    cases xi
    · simp [h]; omega
    · simp [h]; omega
  · simp [h]; exact ⟨hi, he⟩
theorem sweep_loop (f : Bool → Bool → Bool) (hff : f false false = false) (a b : List Span) (Hs : Nat → List Span → Bool → Nat → Bool → Nat → Bool → Heap) (body : (List AV × Heap) → ((List AV × Heap) → Option (List Tree)) → Option (List Tree))
    (hstep : ∀ ag v cl o i xi j yi, i ≤ a.length → j ≤ b.length → cl.length ≤ 1000000 → body (([], Hs v (opn cl o) o.isSome i xi j yi) : List AV × Heap) ag = match tmin (nx a i xi) (nx b j yi) with
      | none => some (fin (opn cl o))
      | some t => ag (([], Hs (nver v o (f (pb a i xi t) (pb b j yi t))) (opn (ncl cl o t (f (pb a i xi t) (pb b j yi t))) (nop o t (f (pb a i xi t) (pb b j yi t)))) (nop o t (f (pb a i xi t) (pb b j yi t))).isSome (pi_ a i xi t) (pb a i xi t) (pi_ b j yi t) (pb b j yi t)) : List AV × Heap)) :
    ∀ k v cl o i xi j yi, i ≤ a.length → j ≤ b.length → (i = a.length → xi = false) → (j = b.length → yi = false) → o.isSome = f xi yi → cl.length + (Sd.sz ⟨a.drop i, xi⟩ + Sd.sz ⟨b.drop j, yi⟩) ≤ 1000000 → Sd.sz ⟨a.drop i, xi⟩ + Sd.sz ⟨b.drop j, yi⟩ < k →
      loopIter body k (([], Hs v (opn cl o) o.isSome i xi j yi) : List AV × Heap) = some (fin (cl ++ go f ⟨a.drop i, xi⟩ ⟨b.drop j, yi⟩ o)) := by
  intro k
  induction k with
  | zero => intro v cl o i xi j yi h1 h2 h3 h4 h5 h6 h7; omega
  | succ k ih =>
    intro v cl o i xi j yi h1 h2 h3 h4 h5 h6 h7
    show body _ (loopIter body k) = _
    rw [hstep _ v cl o i xi j yi h1 h2 (by omega)]
    have e1 := sd_next a i xi
    have e2 := sd_next b j yi
    cases h : tmin (nx a i xi) (nx b j yi) with
    | none =>
      obtain ⟨g1, g2⟩ := tmin_none h
      have := nx_none g1
      have := nx_none g2
      rw [h3 (by omega), h4 (by omega), hff] at h5
      obtain rfl : o = none := by cases o <;> simp at h5 ⊢
      rw [go_none (by rw [e1, e2]; exact h)]
      simp [opn]
    | some t =>
      have h' : tmin (Sd.next ⟨a.drop i, xi⟩) (Sd.next ⟨b.drop j, yi⟩) = some t := by rw [e1, e2]; exact h
      have p1 := sd_pass a i xi t
      have p2 := sd_pass b j yi t
      obtain ⟨m1, _, _⟩ := tmin_some h'
      have z1 := Sd.pass_sz ⟨a.drop i, xi⟩ t
      have z2 := Sd.pass_sz ⟨b.drop j, yi⟩ t
      rw [p1] at z1
      rw [p2] at z2
      have hsz : Sd.sz ⟨a.drop (pi_ a i xi t), pb a i xi t⟩ + Sd.sz ⟨b.drop (pi_ b j yi t), pb b j yi t⟩ < Sd.sz ⟨a.drop i, xi⟩ + Sd.sz ⟨b.drop j, yi⟩ := by
        rcases m1 with m | m
        · have := z1.2 m; omega
        · have := z2.2 m; omega
      have hcl : (ncl cl o t (f (pb a i xi t) (pb b j yi t))).length ≤ cl.length + 1 := by
        unfold ncl
        split <;> simp
      have hno : (nop o t (f (pb a i xi t) (pb b j yi t))).isSome = f (pb a i xi t) (pb b j yi t) := by
        unfold nop
        split <;> simp_all
      simp only
      obtain ⟨b1, b2⟩ := pi_le (t := t) h1 h3
      obtain ⟨b3, b4⟩ := pi_le (t := t) h2 h4
      rw [ih _ _ _ _ _ _ _ b1 b3 b2 b4 hno (by omega) (by omega)]
      rw [go_some h', p1, p2]
      simp only
      congr 2
      cases hnow : f (pb a i xi t) (pb b j yi t) with
      | true => cases o <;> simp [ncl, nop]
      | false => cases o <;> simp [ncl, nop]

theorem sw_67_1 (n : Nat) (a b : List Span) (ha : a.length ≤ 1000) (hb : b.length ≤ 1000) (hf : ∀ xi yi, apure C n 94 [Tree.bool xi, Tree.bool yi] = some [Tree.bool (xi || yi)]) (hn : 5000 ≤ n) :
    loopIter (fun (p : List AV × Heap) again => L67_18 n p again) n (([], HH 94 0 [] false a b 0 false 0 false) : List AV × Heap) = some (fin (go (fun xi yi => xi || yi) ⟨a, false⟩ ⟨b, false⟩ none)) := by
  have := sweep_loop (fun xi yi => xi || yi) rfl a b (fun v es ins i xi j yi => HH 94 v es ins a b i xi j yi) (fun (p : List AV × Heap) again => L67_18 n p again) (fun ag v cl o i xi j yi hi hj hc => by
    rw [q1_67_1 n ag v (opn cl o) o.isSome a b i j xi yi hi, q2_67_1 n ag _ _ v (opn cl o) o.isSome a b i j xi yi hj, q3_67_1 n ag (nx a i xi) (nx b j yi) v (opn cl o) o.isSome a b i j xi yi]
    cases htm : tmin (nx a i xi) (nx b j yi) with
    | none => rfl
    | some t =>
      simp only
      rw [q4_67_1 n ag t v (opn cl o) o.isSome a b i j xi yi hi ha, q5_67_1 n ag t _ v (opn cl o) o.isSome a b _ j _ yi hj hb, q6_67_1 n ag t _ cl o v a b _ _ _ _ hc (hf _ _)]) n 0 [] none 0 false 0 false (Nat.zero_le _) (Nat.zero_le _) (fun _ => rfl) (fun _ => rfl) rfl (by simp only [Sd.sz, List.drop_zero, List.length_nil, Bool.false_eq_true, if_false]; omega) (by simp only [Sd.sz, List.drop_zero, Bool.false_eq_true, if_false]; omega)
  simpa [opn] using this

theorem sw_67_2 (n : Nat) (a b : List Span) (ha : a.length ≤ 1000) (hb : b.length ≤ 1000) (hf : ∀ xi yi, apure C n 94 [Tree.bool xi, Tree.bool yi] = some [Tree.bool (xi || yi)]) (hn : 5000 ≤ n) :
    loopIter (fun (p : List AV × Heap) again => L67_36 n p again) n (([], HH 94 0 [] false b a 0 false 0 false) : List AV × Heap) = some (fin (go (fun xi yi => xi || yi) ⟨a, false⟩ ⟨b, false⟩ none)) := by
  have := sweep_loop (fun xi yi => xi || yi) rfl a b (fun v es ins i xi j yi => HH 94 v es ins b a j yi i xi) (fun (p : List AV × Heap) again => L67_36 n p again) (fun ag v cl o i xi j yi hi hj hc => by
    rw [q1_67_2 n ag v (opn cl o) o.isSome a b i j xi yi hi, q2_67_2 n ag _ _ v (opn cl o) o.isSome a b i j xi yi hj, q3_67_2 n ag (nx a i xi) (nx b j yi) v (opn cl o) o.isSome a b i j xi yi]
    cases htm : tmin (nx a i xi) (nx b j yi) with
    | none => rfl
    | some t =>
      simp only
      rw [q4_67_2 n ag t v (opn cl o) o.isSome a b i j xi yi hi ha, q5_67_2 n ag t _ v (opn cl o) o.isSome a b _ j _ yi hj hb, q6_67_2 n ag t _ cl o v a b _ _ _ _ hc (hf _ _)]) n 0 [] none 0 false 0 false (Nat.zero_le _) (Nat.zero_le _) (fun _ => rfl) (fun _ => rfl) rfl (by simp only [Sd.sz, List.drop_zero, List.length_nil, Bool.false_eq_true, if_false]; omega) (by simp only [Sd.sz, List.drop_zero, Bool.false_eq_true, if_false]; omega)
  simpa [opn] using this

theorem sw_32_1 (n : Nat) (a b : List Span) (ha : a.length ≤ 1000) (hb : b.length ≤ 1000) (hf : ∀ xi yi, apure C n 57 [Tree.bool xi, Tree.bool yi] = some [Tree.bool (xi && !yi)]) (hn : 5000 ≤ n) :
    loopIter (fun (p : List AV × Heap) again => L32_18 n p again) n (([], HH 57 0 [] false a b 0 false 0 false) : List AV × Heap) = some (fin (go (fun xi yi => xi && !yi) ⟨a, false⟩ ⟨b, false⟩ none)) := by
  have := sweep_loop (fun xi yi => xi && !yi) rfl a b (fun v es ins i xi j yi => HH 57 v es ins a b i xi j yi) (fun (p : List AV × Heap) again => L32_18 n p again) (fun ag v cl o i xi j yi hi hj hc => by
    rw [q1_32_1 n ag v (opn cl o) o.isSome a b i j xi yi hi, q2_32_1 n ag _ _ v (opn cl o) o.isSome a b i j xi yi hj, q3_32_1 n ag (nx a i xi) (nx b j yi) v (opn cl o) o.isSome a b i j xi yi]
    cases htm : tmin (nx a i xi) (nx b j yi) with
    | none => rfl
    | some t =>
      simp only
      rw [q4_32_1 n ag t v (opn cl o) o.isSome a b i j xi yi hi ha, q5_32_1 n ag t _ v (opn cl o) o.isSome a b _ j _ yi hj hb, q6_32_1 n ag t _ cl o v a b _ _ _ _ hc (hf _ _)]) n 0 [] none 0 false 0 false (Nat.zero_le _) (Nat.zero_le _) (fun _ => rfl) (fun _ => rfl) rfl (by simp only [Sd.sz, List.drop_zero, List.length_nil, Bool.false_eq_true, if_false]; omega) (by simp only [Sd.sz, List.drop_zero, Bool.false_eq_true, if_false]; omega)
  simpa [opn] using this

theorem sw_32_2 (n : Nat) (a b : List Span) (ha : a.length ≤ 1000) (hb : b.length ≤ 1000) (hf : ∀ xi yi, apure C n 57 [Tree.bool xi, Tree.bool yi] = some [Tree.bool (xi && !yi)]) (hn : 5000 ≤ n) :
    loopIter (fun (p : List AV × Heap) again => L32_36 n p again) n (([], HH 57 0 [] false b a 0 false 0 false) : List AV × Heap) = some (fin (go (fun xi yi => xi && !yi) ⟨a, false⟩ ⟨b, false⟩ none)) := by
  have := sweep_loop (fun xi yi => xi && !yi) rfl a b (fun v es ins i xi j yi => HH 57 v es ins b a j yi i xi) (fun (p : List AV × Heap) again => L32_36 n p again) (fun ag v cl o i xi j yi hi hj hc => by
    rw [q1_32_2 n ag v (opn cl o) o.isSome a b i j xi yi hi, q2_32_2 n ag _ _ v (opn cl o) o.isSome a b i j xi yi hj, q3_32_2 n ag (nx a i xi) (nx b j yi) v (opn cl o) o.isSome a b i j xi yi]
    cases htm : tmin (nx a i xi) (nx b j yi) with
    | none => rfl
    | some t =>
      simp only
      rw [q4_32_2 n ag t v (opn cl o) o.isSome a b i j xi yi hi ha, q5_32_2 n ag t _ v (opn cl o) o.isSome a b _ j _ yi hj hb, q6_32_2 n ag t _ cl o v a b _ _ _ _ hc (hf _ _)]) n 0 [] none 0 false 0 false (Nat.zero_le _) (Nat.zero_le _) (fun _ => rfl) (fun _ => rfl) rfl (by simp only [Sd.sz, List.drop_zero, List.length_nil, Bool.false_eq_true, if_false]; omega) (by simp only [Sd.sz, List.drop_zero, Bool.false_eq_true, if_false]; omega)
  simpa [opn] using this

theorem s94 (p q : Bool) : Runs C 94 [.bool p, .bool q] [.bool (p || q)] := Runs.of (fun n => e94 n _ _) (Ev.of fun n => by cases p <;> simp [cnd_eq])
theorem s57 (p q : Bool) : Runs C 57 [.bool p, .bool q] [.bool (p && !q)] := Runs.of (fun n => e57 n _ _) (Ev.of fun n => by cases p <;> simp [cnd_eq])
theorem all_bools {P : Nat → Bool → Bool → Prop} (h : ∀ p q, Ev fun n => P n p q) : Ev fun n => ∀ p q, P n p q :=
  ((h false false).and ((h false true).and ((h true false).and (h true true)))).mono fun n x p q => by
    cases p <;> cases q
    · exact x.1
    · exact x.2.1
    · exact x.2.2.1
    · exact x.2.2.2
/-- What Union and Minus return. -/
def unionP (a b : List Span) : List Tree := if chkL a = 0 ∧ chkL b = 0 then fin (uni a b) else [.sl 2 [], tI 1]
def minusP (a b : List Span) : List Tree := if chkL a = 0 ∧ chkL b = 0 then fin (min_ a b) else [.sl 2 [], tI 1]
theorem s67 (a b : List Span) : Runs C 67 [.sl 2 (a.map Span.enc), .sl 2 (b.map Span.enc)] (unionP a b) := by
  refine Runs.of (fun n => e67 n _ _) ?_
  refine ((s75 a).and ((s75 b).and ((all_bools s94).and (Ev.ge 5000)))).mono fun n h => ?_
  obtain ⟨h1, h2, h3, h4⟩ := h
  simp only [h1, h2, vv, reduceCtorEq, Nat.reduceAdd, Nat.reduceEqDiff, unionP]
  by_cases ha : chkL a = 0
  · by_cases hb : chkL b = 0
    · have k1 := sw_67_1 n a b (chkL_len ha) (chkL_len hb) h3 h4
      have k2 := sw_67_2 n a b (chkL_len ha) (chkL_len hb) h3 h4
      simp only [HH, List.map_nil, List.length_nil] at k1 k2
      simp only [ha, hb, bne_self_eq_false, J67_37, vv, reduceCtorEq, Nat.reduceAdd, Nat.reduceEqDiff]
      simp only [Int.natCast_zero] at k1 k2
      rw [k1, k2, both_self]
      rfl
    · simp [ha, hb, cnd_eq, J67_37, vB_mk, treeOf, boolOf]
  · simp [ha, cnd_eq, J67_37, vB_mk, treeOf, boolOf]
theorem s32 (a b : List Span) : Runs C 32 [.sl 2 (a.map Span.enc), .sl 2 (b.map Span.enc)] (minusP a b) := by
  refine Runs.of (fun n => e32 n _ _) ?_
  refine ((s75 a).and ((s75 b).and ((all_bools s57).and (Ev.ge 5000)))).mono fun n h => ?_
  obtain ⟨h1, h2, h3, h4⟩ := h
  simp only [h1, h2, vv, reduceCtorEq, Nat.reduceAdd, Nat.reduceEqDiff, minusP]
  by_cases ha : chkL a = 0
  · by_cases hb : chkL b = 0
    · have k1 := sw_32_1 n a b (chkL_len ha) (chkL_len hb) h3 h4
      have k2 := sw_32_2 n a b (chkL_len ha) (chkL_len hb) h3 h4
      simp only [HH, List.map_nil, List.length_nil] at k1 k2
      simp only [ha, hb, bne_self_eq_false, J32_37, vv, reduceCtorEq, Nat.reduceAdd, Nat.reduceEqDiff]
      simp only [Int.natCast_zero] at k1 k2
      rw [k1, k2, both_self]
      rfl
    · simp [ha, hb, cnd_eq, J32_37, vB_mk, treeOf, boolOf]
  · simp [ha, cnd_eq, J32_37, vB_mk, treeOf, boolOf]
end Ab

set_option linter.unusedVariables false
set_option linter.unusedSimpArgs false
namespace Ab
open Go
theorem s73 (l : List Span) : Runs C 73 [.sl 2 (l.map Span.enc)] (fin l) := by
  refine Runs.of (fun n => e73 n _) (Ev.of fun n => ?_)
  unfold fin
  by_cases h : 1000 < l.length
  · simp only [vv, reduceCtorEq, Nat.reduceAdd, Nat.reduceEqDiff, h, (show (1000 : Int) < (l.length : Int) by omega)]
  · simp only [vv, reduceCtorEq, Nat.reduceAdd, Nat.reduceEqDiff, h, (show ¬ (1000 : Int) < (l.length : Int) by omega)]
theorem s71 (a b : List Span) : Runs C 71 [.sl 2 (a.map Span.enc), .sl 2 (b.map Span.enc)] [.bool (decide (¬ (chkL a = 0 ∧ chkL b = 0)))] := by
  refine Runs.of (fun n => e71 n _ _) ?_
  refine ((s55 a).and (s55 b)).mono fun n h => ?_
  simp only [h.1, h.2, vv, reduceCtorEq, Nat.reduceAdd, Nat.reduceEqDiff]
  by_cases ha : chkL a = 0
  · by_cases hb : chkL b = 0 <;> simp [ha, hb, cnd_eq]
  · simp [ha, cnd_eq]
def mg (x y : Span) : Span := ⟨if y.fro < x.fro then y.fro else x.fro, if y.to > x.to then y.to else x.to⟩
theorem take_map_len (l : List Span) : List.take l.length (List.map Span.enc l) = List.map Span.enc l := by rw [List.take_of_length_le (by simp)]
theorem ins_loop2 (l : List Span) (i : Nat) (hi : i ≤ l.length) (hl : l.length ≤ 1000000) (x : Span) (p3 : List AV × Heap) (h1 : sVer p3 0 = i) (h2 : sOff p3 0 = 0) (h3 : sLen p3 0 = i) :
    Ev fun n => loopIter (fun (p9 : List AV × Heap) again => L1000072_2 n (l.map Span.enc) p3 p9 again) n (([.t (tI i)], [.box [.t (tI x.fro), .t (tI x.to)], .row false i 2 ((l.take i).map Span.enc)]) : List AV × Heap) = some [.sl 2 ((l.take i ++ mergeR x (l.drop i)).map Span.enc)] := by
  have key := loop_overQ (R := List Tree) (B := fun n p again => L1000072_2 n (l.map Span.enc) p3 p again) (s := (([.t (tI i)], [.box [.t (tI x.fro), .t (tI x.to)], .row false i 2 ((l.take i).map Span.enc)]) : List AV × Heap))
    (fun (q : List Span) => [Tree.sl 2 ((l.take i ++ q).map Span.enc)]) (l.drop i) (fun j (s : Span) => (([.t (tI ((i + j : Nat) : Int))], [.box [.t (tI s.fro), .t (tI s.to)], .row false i 2 ((l.take i).map Span.enc)]) : List AV × Heap))
    (fun j s y => if y.fro ≤ s.to then .next (mg s y) else .done (s :: l.drop (i + j))) (fun s => [s]) (fun _ _ => True) x rfl trivial (r := mergeR x (l.drop i)) ?_ (fun j s y hy hI => Ev.of fun n again => ?_) (fun _ _ _ _ _ _ _ => trivial) (fun s hI => Ev.of fun n again => ?_)
  · exact key
  · have : ∀ (k : Nat) (m : List Span) (s : Span), m = l.drop (i + k) → runL (fun j s y => if y.fro ≤ s.to then (.next (mg s y) : Rd Span (List Span)) else .done (s :: l.drop (i + j))) (fun s => [s]) k m s = mergeR s m := by
      intro k m
      induction m generalizing k with
      | nil => intro s _; rfl
      | cons y m ih =>
        intro s hm
        have hm' : m = l.drop (i + (k + 1)) := by
          have := congrArg List.tail hm
          simpa [List.tail_drop, Nat.add_assoc] using this
        unfold mergeR
        simp only [runL]
        split
        · rename_i s' hs
          split at hs
          · rename_i hq; cases hs; rw [if_pos hq]; exact ih (k + 1) _ hm'
          · cases hs
        · rename_i r hs
          split at hs
          · cases hs
          · rename_i hq; cases hs; rw [if_neg hq, ← hm]
    exact this 0 _ x rfl
  · have hj := lt_of_some hy
    rw [List.length_drop] at hj
    have hy' : l[i + j]? = some y := by rw [List.getElem?_drop] at hy; exact hy
    have ek : ((l.take i).length) = i := by simp; omega
    have e1 : ((i + j : Nat) : Int) < (l.length : Int) := by omega
    have e2 : ((i + j : Nat) : Int) ≤ (l.length : Int) := by omega
    have e3 : List.take i (List.map Span.enc (List.take i l)) = List.map Span.enc (List.take i l) := by rw [List.take_of_length_le (by simp; omega)]
    have e4 : (i + 1) ≤ 1073741824 := by omega
    have e5 : ¬ (List.length (List.drop (i + j) (List.take l.length (List.map Span.enc l))) = 0 ∧ i + 1 < List.length (List.map Span.enc (List.take i l)) + 1) := by
      simp; omega
    by_cases hq : y.fro ≤ s.to
    · simp only [L1000072_2, J1000072_1, vv, reduceCtorEq, Nat.reduceAdd, Nat.reduceEqDiff, hy', e1, Span.enc, hq, mg, w64_succ (show i + j < 4611686018427387904 by omega), Rd.go_next, Nat.add_assoc]
    · simp only [L1000072_2, J1000072_1, vv, reduceCtorEq, Nat.reduceAdd, Nat.reduceEqDiff, hy', e1, e2, Span.enc, hq, h1, h2, h3, e3, e4, ek, Rd.go_done, Nat.le_refl]
      simp only [cnd_eq]
      have e6 : (List.map Span.enc (List.take i l)).length = i := by simp; omega
      have e7 : List.take (l.length) (List.map Span.enc l) = List.map Span.enc l := take_map_len l
      simp [e6, e7, Span.enc]
      have eA : (List.take i (List.map Span.enc l)).length = i := by simp; omega
      rw [if_neg (by omega), if_pos ⟨by omega, by omega⟩, List.take_of_length_le (l := List.take i (List.map Span.enc l) ++ [[tI s.fro, tI s.to]]) (by simp; omega), List.take_of_length_le (by simp; omega)]
      simp
  · have ej : i + (l.drop i).length = l.length := by rw [List.length_drop]; omega
    simp only [ej, L1000072_2, J1000072_1, vv, reduceCtorEq, Nat.reduceAdd, Nat.reduceEqDiff, Int.lt_irrefl, h1, h2, h3]
    simp only [cnd_eq]
    have ek : ((l.take i).length) = i := by simp; omega
    have e3 : List.take i (List.map Span.enc (List.take i l)) = List.map Span.enc (List.take i l) := by rw [List.take_of_length_le (by simp; omega)]
    have ed : List.drop l.length (List.take l.length (List.map Span.enc l)) = [] := by simp
    rw [e3, ed]
    rw [if_pos ⟨by omega, by omega⟩, if_pos (Int.le_refl _), if_neg (by simp; omega), if_pos ⟨by simp; omega, by simp; omega⟩]
    rw [List.append_nil, List.take_of_length_le (l := List.map Span.enc (List.take i l) ++ [[tI s.fro, tI s.to]]) (by simp; omega), List.take_of_length_le (by simp; omega)]
    simp [Span.enc]
theorem s1000072 (l : List Span) (x : Span) (hl : l.length ≤ 1000000) : Runs C 1000072 [.sl 2 (l.map Span.enc), tI x.fro, tI x.to] [.sl 2 ((insR x l).map Span.enc)] := by
  refine Runs.of (fun n => e1000072 n _ _ _) ?_
  refine loop_overQ (fun (q : List Span) => [Tree.sl 2 (q.map Span.enc)]) l (fun i (_ : Unit) => (([.sref 1 i 0 i, .t (tI i)], [.box [.t (tI x.fro), .t (tI x.to)], .row false i 2 ((l.take i).map Span.enc)]) : List AV × Heap))
    (fun i _ y => if y.to < x.fro then .next () else .done (l.take i ++ mergeR x (l.drop i))) (fun _ => l ++ mergeR x []) (fun _ _ => True) () rfl trivial ?_ (fun i s y hy hI => ?_) (fun _ _ _ _ _ _ _ => trivial) (fun s hI => ?_)
  · have : ∀ (m pre : List Span), l = pre ++ m → runL (fun i (_ : Unit) y => if y.to < x.fro then (.next () : Rd Unit (List Span)) else .done (l.take i ++ mergeR x (l.drop i))) (fun _ => l ++ mergeR x []) pre.length m () = pre ++ insR x m := by
      intro m
      induction m with
      | nil => intro pre h; simp [runL, insR, h]
      | cons y m ih =>
        intro pre h
        unfold insR
        simp only [runL]
        have := ih (pre ++ [y]) (by simp [h])
        simp only [List.length_append, List.length_cons, List.length_nil, Nat.zero_add] at this
        split
        · rename_i s' hs
          split at hs
          · rename_i hq; rw [if_pos hq]; rw [this]; simp
          · cases hs
        · rename_i r hs
          split at hs
          · cases hs
          · rename_i hq
            cases hs
            rw [if_neg hq]
            have e1 : l.take pre.length = pre := by rw [h]; simp
            have e2 : l.drop pre.length = y :: m := by rw [h]; simp
            rw [e1, e2]
    exact this l [] rfl
  · have hi := lt_of_some hy
    have k2 := ins_loop2 l i (by omega) hl x (([.sref 1 i 0 i, .t (tI i)], [.box [.t (tI x.fro), .t (tI x.to)], .row false i 2 ((l.take i).map Span.enc)]) : List AV × Heap) rfl rfl rfl
    refine k2.mono fun n h2 again => ?_
    have e1 : (i : Int) < (l.length : Int) := by omega
    have ek : ((l.take i).length) = i := by simp; omega
    have e3 : List.take i (List.map Span.enc (List.take i l)) = List.map Span.enc (List.take i l) := by rw [List.take_of_length_le (by simp; omega)]
    have e4 : List.take (i + 1) l = List.take i l ++ [y] := by rw [List.take_add_one, hy]; rfl
    by_cases hq : y.to < x.fro
    · simp only [L1000072_4, J1000072_3, vv, reduceCtorEq, Nat.reduceAdd, Nat.reduceEqDiff, hy, e1, Span.enc, hq, w64_succ (show i < 4611686018427387904 by omega), Rd.go_next, ek, e3, (show i + 1 ≤ 1073741824 by omega), Nat.le_refl]
      rw [e4, List.map_append]
      rfl
    · simp only [L1000072_4, J1000072_3, vv, reduceCtorEq, Nat.reduceAdd, Nat.reduceEqDiff, hy, e1, Span.enc, hq, Rd.go_done]
      exact h2
  · have k2 := ins_loop2 l l.length (Nat.le_refl _) hl x (([.sref 1 l.length 0 l.length, .t (tI l.length)], [.box [.t (tI x.fro), .t (tI x.to)], .row false l.length 2 ((l.take l.length).map Span.enc)]) : List AV × Heap) rfl rfl rfl
    refine k2.mono fun n h2 again => ?_
    simp only [L1000072_4, J1000072_3, vv, reduceCtorEq, Nat.reduceAdd, Nat.reduceEqDiff, Int.lt_irrefl]
    simpa using h2
theorem insR_len (x : Span) : ∀ l, (insR x l).length ≤ l.length + 1
  | [] => by simp [insR, mergeR]
  | y :: l => by
    unfold insR
    split
    · simp; exact insR_len x l
    · have : ∀ (m : List Span) (z : Span), (mergeR z m).length ≤ m.length + 1 := by
        intro m
        induction m with
        | nil => intro z; simp [mergeR]
        | cons w m ih =>
          intro z
          unfold mergeR
          split
          · have := ih ⟨if w.fro < z.fro then w.fro else z.fro, if w.to > z.to then w.to else z.to⟩
            simp only [List.length_cons]
            omega
          · simp
      exact this _ _
theorem s44 (a b : List Span) : Runs C 44 [.sl 2 (a.map Span.enc), .sl 2 (b.map Span.enc)] (unionP a b) := by
  refine Runs.of (fun n => e44 n _ _) ?_
  unfold unionP
  by_cases hc : chkL a = 0 ∧ chkL b = 0
  · rw [if_pos hc]
    have la := chkL_len hc.1
    have lb := chkL_len hc.2
    have hu : unionR a b = uni a b := uni_eq ((chkL_iff a).1 hc.1).2.1 ((chkL_iff b).1 hc.2).2.1
    refine Ev.rw (s71 a b) (T' := ?TT) (fun n h => ?g1) ?g2
    case g1 =>
      simp only [h, hc, vv, reduceCtorEq, Nat.reduceAdd, Nat.reduceEqDiff, not_true_eq_false, (show a.length ≤ 1073741824 by omega)]
      rfl
    case g2 =>
      rw [← hu]
      refine loop_overQ (R := List Tree) (Q := List Span) fin b (fun i (m : List Span) => (([.sref 0 i 0 m.length, .t (tI i)], [.row false i 2 (m.map Span.enc)]) : List AV × Heap))
        (fun i m x => .next (insR x m)) (fun m => m) (fun i m => m.length ≤ 1000 + i) a rfl (by omega) ?_ (fun i m x hx hI => ?_) (fun i m x m' hx hI he => ?_) (fun m hI => ?_)
      · have : ∀ (k : Nat) (m a : List Span), runL (fun i m x => (Rd.next (insR x m) : Rd (List Span) (List Span))) (fun m => m) k m a = unionR a m := by
          intro k m
          induction m generalizing k with
          | nil => intro a; rfl
          | cons x m ih => intro a; exact ih _ _
        exact this 0 b a
      · have hi := lt_of_some hx
        refine (s1000072 m x (by omega)).mono fun n h again => ?_
        simp only [L44_1, vv, reduceCtorEq, Nat.reduceAdd, Nat.reduceEqDiff, hx, (show (i : Int) < (b.length : Int) by omega), Span.enc, take_map_len, h, w64_succ (show i < 4611686018427387904 by omega), Rd.go_next]
      · cases he
        have := insR_len x m
        omega
      · refine (s73 m).mono fun n h again => ?_
        simp only [L44_1, vv, reduceCtorEq, Nat.reduceAdd, Nat.reduceEqDiff, Int.lt_irrefl, take_map_len, h, fin]
        split <;> simp only [vv, reduceCtorEq, Nat.reduceAdd, Nat.reduceEqDiff]
  · rw [if_neg hc]
    refine (s71 a b).mono fun n h => ?_
    simp only [h, hc, vv, reduceCtorEq, Nat.reduceAdd, Nat.reduceEqDiff, not_false_eq_true]
end Ab

set_option linter.unusedVariables false
set_option linter.unusedSimpArgs false
namespace Ab
open Go
structure OS where
  v : Nat
  f : Int
  out : List Span
theorem s96 (l : List Span) (hl : l.length ≤ 1000) : Runs C 96 [.sl 2 (l.map Span.enc)] [.sl 2 ((outR (-1152921504606846976) l).map Span.enc)] := by
  refine Runs.of (fun n => e96 n _) ?_
  refine loop_overQ (R := List Tree) (fun (q : List Span) => [Tree.sl 2 (q.map Span.enc)]) l (fun i (s : OS) => (([.sref 0 s.v 0 s.out.length, .t (tI s.f), .t (tI i)], [.row false s.v 2 (s.out.map Span.enc)]) : List AV × Heap))
    (fun i s x => if s.f < x.fro then .next ⟨s.v + 1, x.to, s.out ++ [⟨s.f, x.fro⟩]⟩ else .next ⟨s.v, x.to, s.out⟩) (fun s => if s.f < 1152921504606846976 then s.out ++ [⟨s.f, 1152921504606846976⟩] else s.out) (fun i s => s.out.length ≤ i) ⟨0, -1152921504606846976, []⟩ rfl (Nat.le_refl _) ?_ (fun i s x hx hI => Ev.of fun n again => ?_) (fun i s x s' hx hI he => ?_) (fun s hI => Ev.of fun n again => ?_)
  · have : ∀ (m : List Span) (k : Nat) (s : OS), runL (fun i s x => if s.f < x.fro then (.next ⟨s.v + 1, x.to, s.out ++ [⟨s.f, x.fro⟩]⟩ : Rd OS (List Span)) else .next ⟨s.v, x.to, s.out⟩) (fun s => if s.f < 1152921504606846976 then s.out ++ [⟨s.f, 1152921504606846976⟩] else s.out) k m s = s.out ++ outR s.f m := by
      intro m
      induction m with
      | nil =>
        intro k s
        simp only [runL, outR]
        split <;> simp
      | cons x m ih =>
        intro k s
        simp only [runL, outR]
        by_cases h : s.f < x.fro
        · simp only [h, if_true]
          rw [ih]
          simp
        · simp only [h, if_false]
          rw [ih]
    simpa using this l 0 ⟨0, -1152921504606846976, []⟩
  · have hi := lt_of_some hx
    by_cases hq : s.f < x.fro
    · simp only [L96_1, vv, reduceCtorEq, Nat.reduceAdd, Nat.reduceEqDiff, hx, (show (i : Int) < (l.length : Int) by omega), Span.enc, take_map_len, w64_succ (show i < 4611686018427387904 by omega), hq, Rd.go_next, Nat.le_refl, (show s.out.length + 1 ≤ 1073741824 by omega), List.map_append, List.map_cons, List.map_nil, List.length_append]
    · simp only [L96_1, vv, reduceCtorEq, Nat.reduceAdd, Nat.reduceEqDiff, hx, (show (i : Int) < (l.length : Int) by omega), Span.enc, w64_succ (show i < 4611686018427387904 by omega), hq, Rd.go_next]
  · split at he
    · cases he; simp; omega
    · cases he; simp only; omega
  · by_cases hq : s.f < 1152921504606846976
    · have e1 : List.take (s.out.length + 1) (List.map Span.enc s.out ++ [[tI s.f, tI 1152921504606846976]]) = List.map Span.enc s.out ++ [[tI s.f, tI 1152921504606846976]] := by rw [List.take_of_length_le (by simp)]
      simp only [L96_1, vv, reduceCtorEq, Nat.reduceAdd, Nat.reduceEqDiff, Int.lt_irrefl, take_map_len, hq, Nat.le_refl, (show s.out.length + 1 ≤ 1073741824 by omega), e1, List.map_append, List.map_cons, List.map_nil, Span.enc]
    · simp only [L96_1, vv, reduceCtorEq, Nat.reduceAdd, Nat.reduceEqDiff, Int.lt_irrefl, take_map_len, hq]
structure BS where
  v : Nat
  out : List Span
def inner (x : Span) (s : BS) : List Span → BS
  | [] => s
  | y :: o => match piece x y with
    | some z => inner x ⟨s.v + 1, s.out ++ [z]⟩ o
    | none => inner x s o
theorem inner_out (x : Span) : ∀ (o : List Span) (s : BS), (inner x s o).out = s.out ++ o.filterMap (piece x)
  | [], s => by simp [inner]
  | y :: o, s => by
    unfold inner
    cases h : piece x y with
    | none => rw [List.filterMap_cons_none h]; exact inner_out x o s
    | some z => rw [List.filterMap_cons_some h, inner_out x o]; simp
theorem s95 (a o : List Span) (ha : a.length ≤ 1000) (ho : o.length ≤ 2000) : Runs C 95 [.sl 2 (a.map Span.enc), .sl 2 (o.map Span.enc)] [.sl 2 ((bothR a o).map Span.enc)] := by
  refine Runs.of (fun n => e95 n _ _) ?_
  refine loop_overQ (R := List Tree) (fun (q : List Span) => [Tree.sl 2 (q.map Span.enc)]) a (fun i (s : BS) => (([.sref 0 s.v 0 s.out.length, .t (tI i)], [.row false s.v 2 (s.out.map Span.enc)]) : List AV × Heap))
    (fun i s x => .next (inner x s o)) (fun s => s.out) (fun i s => s.out.length ≤ 2000 * i) ⟨0, []⟩ rfl (Nat.le_refl _) ?_ (fun i s x hx hI => ?_) (fun i s x s' hx hI he => ?_) (fun s hI => Ev.of fun n again => ?_)
  · have : ∀ (m : List Span) (k : Nat) (s : BS), runL (fun i s x => (.next (inner x s o) : Rd BS (List Span))) (fun s => s.out) k m s = s.out ++ bothR m o := by
      intro m
      induction m with
      | nil => intro k s; simp [runL, bothR]
      | cons x m ih =>
        intro k s
        simp only [runL]
        rw [ih, inner_out]
        simp [bothR]
    simpa using this a 0 ⟨0, []⟩
  · have hi := lt_of_some hx
    have key := loop_overZ (R := List Tree) (Z := List AV × Heap → Option (List Tree)) (B := fun n z p again => L95_1 n (o.map Span.enc) (([.sref 0 s.v 0 s.out.length, .t (tI i)], [.row false s.v 2 (s.out.map Span.enc)]) : List AV × Heap) (a.map Span.enc) z p again)
      (s := (([.sref 0 s.v 0 s.out.length, .t (tI 0)], [.row false s.v 2 (s.out.map Span.enc)]) : List AV × Heap)) o (fun j (u : BS) => (([.sref 0 u.v 0 u.out.length, .t (tI j)], [.row false u.v 2 (u.out.map Span.enc)]) : List AV × Heap))
      (fun j u y => match piece x y with
        | some z => .next ⟨u.v + 1, u.out ++ [z]⟩
        | none => .next u) (fun u => u) (fun z (u : BS) => z (([.sref 0 u.v 0 u.out.length, .t (tI ((i + 1 : Nat) : Int))], [.row false u.v 2 (u.out.map Span.enc)]) : List AV × Heap)) (fun j u => u.out.length ≤ 2000 * i + j) s rfl (by omega) (r := inner x s o) ?_
      (fun j u y hy hJ => Ev.of fun n z again => ?_) (fun j u y u' hy hJ he => ?_) (fun u hJ => Ev.of fun n z again => ?_)
    · refine key.mono fun n h again => ?_
      simp only [L95_2, vv, reduceCtorEq, Nat.reduceAdd, Nat.reduceEqDiff, (show (i : Int) < (a.length : Int) by omega), Rd.go_next]
      exact h again
    · have : ∀ (m : List Span) (k : Nat) (u : BS), runL (fun j u y => match piece x y with
        | some z => (.next ⟨u.v + 1, u.out ++ [z]⟩ : Rd BS BS)
        | none => .next u) (fun u => u) k m u = inner x u m := by
        intro m
        induction m with
        | nil => intro k u; rfl
        | cons y m ih =>
          intro k u
          simp only [runL, inner]
          cases h : piece x y with
          | none => exact ih _ _
          | some z => exact ih _ _
      exact this o 0 s
    · have hj := lt_of_some hy
      unfold piece mxI mnI
      by_cases hq : (if y.fro > x.fro then y.fro else x.fro) < (if y.to < x.to then y.to else x.to)
      · rw [if_pos hq]
        simp only [gt_iff_lt] at hq
        simp only [L95_1, vv, reduceCtorEq, Nat.reduceAdd, Nat.reduceEqDiff, hx, hy, (show (j : Int) < (o.length : Int) by omega), Span.enc, take_map_len, w64_succ (show j < 4611686018427387904 by omega), hq, Rd.go_next, Nat.le_refl, (show u.out.length + 1 ≤ 1073741824 by omega), List.map_append, List.map_cons, List.map_nil, List.length_append]
      · rw [if_neg hq]
        simp only [gt_iff_lt] at hq
        simp only [L95_1, vv, reduceCtorEq, Nat.reduceAdd, Nat.reduceEqDiff, hx, hy, (show (j : Int) < (o.length : Int) by omega), Span.enc, w64_succ (show j < 4611686018427387904 by omega), hq, Rd.go_next]
    · split at he
      · cases he; simp; omega
      · cases he; omega
    · simp only [L95_1, vv, reduceCtorEq, Nat.reduceAdd, Nat.reduceEqDiff, Int.lt_irrefl, w64_succ (show i < 4611686018427387904 by omega)]
  · cases he
    rw [inner_out]
    have := List.length_filterMap_le (piece x) o
    simp only [List.length_append]
    omega
  · simp only [L95_2, vv, reduceCtorEq, Nat.reduceAdd, Nat.reduceEqDiff, Int.lt_irrefl, take_map_len]
theorem outR_len : ∀ (l : List Span) (f : Int), (outR f l).length ≤ l.length + 1
  | [], f => by unfold outR; split <;> simp
  | x :: l, f => by
    have := outR_len l x.to
    unfold outR
    split
    · simp; omega
    · simp; omega
theorem s74 (a b : List Span) : Runs C 74 [.sl 2 (a.map Span.enc), .sl 2 (b.map Span.enc)] (minusP a b) := by
  refine Runs.of (fun n => e74 n _ _) ?_
  unfold minusP
  by_cases hc : chkL a = 0 ∧ chkL b = 0
  · rw [if_pos hc]
    have la := chkL_len hc.1
    have lb := chkL_len hc.2
    have hu : minusR a b = min_ a b := min_eq ((chkL_iff a).1 hc.1).2.1 ((chkL_iff b).1 hc.2).2.1 ((chkL_iff a).1 hc.1).2.2 ((chkL_iff b).1 hc.2).2.2
    have lo := outR_len b (-1152921504606846976)
    refine ((s71 a b).and ((s96 b lb).and ((s95 a (outR (-1152921504606846976) b) la (by omega)).and (s73 (bothR a (outR (-1152921504606846976) b)))))).mono fun n h => ?_
    obtain ⟨h1, h2, h3, h4⟩ := h
    rw [← hu]
    unfold minusR
    simp only [fin] at h4 ⊢
    by_cases hq : 1000 < (bothR a (outR (-1152921504606846976) b)).length
    · simp only [hq, if_true] at h4 ⊢
      simp only [h1, hc, vv, reduceCtorEq, Nat.reduceAdd, Nat.reduceEqDiff, not_true_eq_false, h2, h3, h4]
    · simp only [hq, if_false] at h4 ⊢
      simp only [h1, hc, vv, reduceCtorEq, Nat.reduceAdd, Nat.reduceEqDiff, not_true_eq_false, h2, h3, h4]
  · rw [if_neg hc]
    refine (s71 a b).mono fun n h => ?_
    simp only [h, hc, vv, reduceCtorEq, Nat.reduceAdd, Nat.reduceEqDiff, not_false_eq_true]
end Ab

set_option linter.unusedVariables false
set_option linter.unusedSimpArgs false
namespace Ab
open Go
def minusL (a b : List Span) : List Span := if chkL a = 0 ∧ chkL b = 0 then (if 1000 < (min_ a b).length then [] else min_ a b) else []
def minusE (a b : List Span) : Int := if chkL a = 0 ∧ chkL b = 0 then (if 1000 < (min_ a b).length then 4 else 0) else 1
theorem minusP_eq (a b : List Span) : minusP a b = [.sl 2 ((minusL a b).map Span.enc), tI (minusE a b)] := by
  unfold minusP minusL minusE fin
  split
  · split <;> rfl
  · rfl
def unionL (a b : List Span) : List Span := if chkL a = 0 ∧ chkL b = 0 then (if 1000 < (uni a b).length then [] else uni a b) else []
def unionE (a b : List Span) : Int := if chkL a = 0 ∧ chkL b = 0 then (if 1000 < (uni a b).length then 4 else 0) else 1
theorem unionP_eq (a b : List Span) : unionP a b = [.sl 2 ((unionL a b).map Span.enc), tI (unionE a b)] := by
  unfold unionP unionL unionE fin
  split
  · split <;> rfl
  · rfl
def wholeS (d : ByteArray) : List Span := [⟨0, d.size⟩]
def leftS (s : Snd) : List Span := minusL (wholeS s.data) s.acked
theorem s76 (d : ByteArray) : Runs C 76 [.str d] [.sl 2 ((wholeS d).map Span.enc)] := Runs.of (fun n => e76 n _) (Ev.of fun n => rfl)
theorem s54 (s : Snd) : Runs C 54 s.enc [.sl 2 ((leftS s).map Span.enc)] := by
  refine Runs.of (fun n => e54 n _ _ _ _ _ _ _ _ _ _ _ _ _ _ _) ?_
  refine ((s76 s.data).and (s32 (wholeS s.data) s.acked)).mono fun n h => ?_
  obtain ⟨h1, h2⟩ := h
  rw [minusP_eq] at h2
  simp only [h1, h2, vv, reduceCtorEq, Nat.reduceAdd, Nat.reduceEqDiff]
  rfl
theorem s45 (s : Snd) : Runs C 45 s.enc [.sl 2 ((leftS s).map Span.enc)] := by
  refine Runs.of (fun n => e45 n _ _ _ _ _ _ _ _ _ _ _ _ _ _ _) ?_
  refine (s74 (wholeS s.data) s.acked).mono fun n h2 => ?_
  rw [minusP_eq] at h2
  simp only [wholeS, List.map_cons, List.map_nil, Span.enc] at h2
  simp only [h2, vv, reduceCtorEq, Nat.reduceAdd, Nat.reduceEqDiff]
  rfl
def complete (s : Snd) : Bool := decide (s.acked = wholeS s.data)
theorem s47 (s : Snd) (hl : s.acked.length ≤ 1000) : Runs C 47 s.enc [.bool (complete s)] := by
  refine Runs.of (fun n => e47 n _ _ _ _ _ _ _ _ _ _ _ _ _ _ _) ?_
  refine ((s76 s.data).and (s30 s.acked (wholeS s.data) (by omega))).mono fun n h => ?_
  simp only [h.1, h.2, vv, reduceCtorEq, Nat.reduceAdd, Nat.reduceEqDiff, complete]
def dueS (s : Snd) : Int := s.busy + 2 * s.c.rng + 1
theorem s48 (s : Snd) (h : -4611686018427387904 ≤ s.busy ∧ s.busy ≤ 2305843009213693952 ∧ 0 ≤ s.c.rng ∧ s.c.rng ≤ 1048576) : Runs C 48 s.enc [tI (dueS s)] := by
  refine Runs.of (fun n => e48 n _ _ _ _ _ _ _ _ _ _ _ _ _ _ _) (Ev.of fun n => ?_)
  rw [w64_id (x := 2 * s.c.rng) (by omega) (by omega), w64_id (x := s.busy + 2 * s.c.rng) (by omega) (by omega), w64_id (by omega) (by omega)]
  rfl
theorem s62 (s : Snd) : Runs C 62 s.enc (Snd.enc { s with due := 0, st := 3 }) := Runs.of (fun n => e62 n _ _ _ _ _ _ _ _ _ _ _ _ _ _ _) (Ev.of fun n => rfl)
def RngS (s : Snd) : Prop := (0 ≤ s.ses ∧ s.ses ≤ 1099511627776) ∧ (1 ≤ s.data.size ∧ s.data.size ≤ 65536) ∧ (s.c.start ≤ s.busy ∧ s.busy ≤ s.fin) ∧ s.fin ≤ s.c.fin ∧ (1 ≤ s.ser ∧ s.ser ≤ 1099511627776)
instance (s : Snd) : Decidable (RngS s) := by unfold RngS; exact inferInstance
def AckS (s : Snd) : Prop := chkL s.acked = 0 ∧ (s.acked = [] ∨ 0 ≤ headFro s.acked ∧ lastTo s.acked ≤ s.data.size)
instance (s : Snd) : Decidable (AckS s) := by unfold AckS; exact inferInstance
def chkF (s : Snd) : Int := if chkC s.c ≠ 0 then 1 else if ¬ RngS s then 2 else if ¬ AckS s then 1 else 0
theorem s46 (s : Snd) : Runs C 46 s.enc [tI (chkF s)] := by
  refine Runs.of (fun n => e46 n _ _ _ _ _ _ _ _ _ _ _ _ _ _ _) ?_
  refine ((s34 s.c).and ((s35 s.ses 0 1099511627776).and ((s35 (s.data.size : Int) 1 65536).and ((s35 s.busy s.c.start s.fin).and ((s35 s.ser 1 1099511627776).and (s75 s.acked)))))).mono fun n h => ?_
  obtain ⟨h1, h2, h3, h4, h5, h6⟩ := h
  simp only [Con.enc] at h1
  unfold chkF
  by_cases hc : chkC s.c = 0
  · have hJ : ∀ (hp : Heap), J46_1 n (s.acked.map Span.enc) s.data (([.t (.bool (decide (¬ RngS s)))], hp) : List AV × Heap) = some [tI (if ¬ RngS s then 2 else if ¬ AckS s then 1 else 0)] := by
      intro hp
      simp only [J46_1, vv, reduceCtorEq, Nat.reduceAdd, Nat.reduceEqDiff, h6, Span.enc]
      by_cases hr : RngS s
      · simp only [hr, vv, reduceCtorEq, Nat.reduceAdd, Nat.reduceEqDiff, not_true_eq_false, AckS]
        by_cases ha : chkL s.acked = 0
        · by_cases hl : s.acked = []
          · simp [hl, ha, cnd_eq]
            simp [chkL, runL]
          · obtain ⟨g1, g2⟩ := head_at hl
            obtain ⟨g3, g4⟩ := last_at hl
            have hp := List.length_pos_iff.2 hl
            have hm := chkL_len ha
            rw [w64_id (x := (s.acked.length : Int) - 1) (by omega) (by omega)]
            simp only [ha, bne_self_eq_false, vv, reduceCtorEq, Nat.reduceAdd, Nat.reduceEqDiff, (show (0 : Int) < (s.acked.length : Int) by omega), g1, g2, g4, (show ((s.acked.length : Int) - 1).toNat = s.acked.length - 1 by omega), g3, Span.enc, (show (0 : Int) ≤ (s.acked.length : Int) - 1 by omega), hl]
            simp only [cnd_eq]
            (repeat' split) <;> first | rfl | (exfalso; omega)
        · simp [ha, cnd_eq]
      · simp [hr, cnd_eq]
    simp only [h1, h2, h3, h4, h5, hc, vv, reduceCtorEq, Nat.reduceAdd, Nat.reduceEqDiff, bne_self_eq_false, wi, ne_eq, not_true_eq_false]
    have hT : (decide (¬ RngS s)) = true ↔ ¬ RngS s := decide_eq_true_iff
    by_cases q1 : 0 ≤ s.ses ∧ s.ses ≤ 1099511627776
    · by_cases q2 : 1 ≤ s.data.size ∧ s.data.size ≤ 65536
      · have q2' : (1 : Int) ≤ (s.data.size : Int) ∧ (s.data.size : Int) ≤ 65536 := by omega
        by_cases q3 : s.c.start ≤ s.busy ∧ s.busy ≤ s.fin
        · by_cases q4 : s.c.fin < s.fin
          · have : (true : Bool) = decide (¬ RngS s) := by symm; rw [decide_eq_true_eq]; unfold RngS; omega
            simp only [q1, q2', q3, q4, vv, reduceCtorEq, Nat.reduceAdd, Nat.reduceEqDiff]
            rw [this]
            exact hJ _
          · have : (!decide (1 ≤ s.ser ∧ s.ser ≤ 1099511627776)) = decide (¬ RngS s) := by
              rw [Bool.eq_iff_iff, decide_eq_true_eq, Bool.not_eq_true', decide_eq_false_iff_not]
              unfold RngS
              constructor
              · intro h h2; exact h h2.2.2.2.2
              · intro h h2; exact h ⟨q1, q2, q3, by omega, h2⟩
            simp only [q1, q2', q3, q4, vv, reduceCtorEq, Nat.reduceAdd, Nat.reduceEqDiff]
            rw [this]
            exact hJ _
        · have : (true : Bool) = decide (¬ RngS s) := by symm; rw [decide_eq_true_eq]; unfold RngS; omega
          simp only [q1, q2', q3, vv, reduceCtorEq, Nat.reduceAdd, Nat.reduceEqDiff]
          rw [this]
          exact hJ _
      · have q2' : ¬ ((1 : Int) ≤ (s.data.size : Int) ∧ (s.data.size : Int) ≤ 65536) := by omega
        have : (true : Bool) = decide (¬ RngS s) := by symm; rw [decide_eq_true_eq]; unfold RngS; omega
        simp only [q1, q2', vv, reduceCtorEq, Nat.reduceAdd, Nat.reduceEqDiff]
        rw [this]
        exact hJ _
    · have : (true : Bool) = decide (¬ RngS s) := by symm; rw [decide_eq_true_eq]; unfold RngS; omega
      simp only [q1, vv, reduceCtorEq, Nat.reduceAdd, Nat.reduceEqDiff]
      rw [this]
      exact hJ _
  · simp [h1, hc, cnd_eq, vv, reduceCtorEq, Nat.reduceAdd, Nat.reduceEqDiff]
end Ab

set_option linter.unusedVariables false
set_option linter.unusedSimpArgs false
namespace Ab
open Go
def fits (s : Snd) : Bool := decide ((s.st = 1 ∧ complete s = false ∧ s.due = dueS s) ∨ (s.st = 2 ∧ complete s = true ∧ s.due = 0) ∨ (s.st = 3 ∧ s.due = 0))
def chkS (s : Snd) : Int := if chkF s ≠ 0 then chkF s else if fits s = true then 0 else 19
theorem chkF_zero {s : Snd} (h : chkF s = 0) : chkC s.c = 0 ∧ RngS s ∧ AckS s := by
  unfold chkF at h
  split at h
  · cases h
  · rename_i h1
    split at h
    · cases h
    · rename_i h2
      split at h
      · cases h
      · rename_i h3
        exact ⟨by omega, Classical.not_not.1 h2, Classical.not_not.1 h3⟩
theorem chkC_zero {c : Con} (h : chkC c = 0) : ConOk c ∧ 0 ≤ c.start ∧ c.start < c.fin ∧ c.fin ≤ 1099511627776 - 2 * c.rng := by
  unfold chkC at h
  split at h
  · cases h
  · rename_i h1
    split at h
    · cases h
    · split at h
      · cases h
      · rename_i h3
        exact ⟨Classical.not_not.1 h1, by omega⟩
theorem due_ok {s : Snd} (h : chkF s = 0) : -4611686018427387904 ≤ s.busy ∧ s.busy ≤ 2305843009213693952 ∧ 0 ≤ s.c.rng ∧ s.c.rng ≤ 1048576 := by
  obtain ⟨h1, h2, h3⟩ := chkF_zero h
  obtain ⟨c1, c2⟩ := chkC_zero h1
  unfold ConOk at c1
  unfold RngS at h2
  omega
theorem s19 (s : Snd) : Runs C 19 s.enc [tI (chkS s)] := by
  refine Runs.of (fun n => e19 n _ _ _ _ _ _ _ _ _ _ _ _ _ _ _) ?_
  unfold chkS
  by_cases hc : chkF s = 0
  · have hl := chkL_len (chkF_zero hc).2.2.1
    refine ((s46 s).and ((s47 s hl).and (s48 s (due_ok hc)))).mono fun n h => ?_
    obtain ⟨h1, h2, h3⟩ := h
    simp only [Snd.enc] at h1 h2 h3
    simp only [h1, h2, h3, hc, vv, reduceCtorEq, Nat.reduceAdd, Nat.reduceEqDiff, bne_self_eq_false, J19_2, J19_1, ne_eq, not_true_eq_false, fits]
    simp only [cnd_eq, beq_iff_eq, Bool.not_eq_true', decide_eq_false_iff_not]
    by_cases k1 : s.st = 1
    · cases complete s <;> simp [k1]
      by_cases k2 : s.due = dueS s <;> simp [k2]
    · by_cases k2 : s.st = 2
      · cases complete s <;> simp [k1, k2]
        by_cases k3 : s.due = 0 <;> simp [k3]
      · by_cases k3 : s.st = 3
        · simp [k1, k2, k3]
          by_cases k4 : s.due = 0 <;> simp [k4]
        · simp [k1, k2, k3]
  · refine (s46 s).mono fun n h1 => ?_
    simp only [Snd.enc] at h1
    simp [h1, hc, cnd_eq, vv, reduceCtorEq, Nat.reduceAdd, Nat.reduceEqDiff]
theorem canon_bounds {l : List Span} {b : Int} (h : Canon b l) (hl : l ≠ []) : ∀ x ∈ l, headFro l ≤ x.fro ∧ x.to ≤ lastTo l := by
  induction l generalizing b with
  | nil => exact (hl rfl).elim
  | cons y l ih =>
    intro x hx
    cases l with
    | nil =>
      simp only [List.mem_singleton] at hx
      subst hx
      exact ⟨Int.le_refl _, Int.le_refl _⟩
    | cons z l =>
      have e : lastTo (y :: z :: l) = lastTo (z :: l) := by unfold lastTo; rw [List.getLast?_cons_cons]
      rw [e]
      have k := ih h.2.2 (by simp)
      have hz : headFro (z :: l) = z.fro := rfl
      have hy : headFro (y :: z :: l) = y.fro := rfl
      have h1 := h.2.1
      have h2 := h.2.2.1
      rw [hy]
      rcases List.mem_cons.1 hx with rfl | hx
      · have := k z (by simp)
        have := h.2.2.2.1
        omega
      · have := k x hx
        omega
theorem head_mem {l : List Span} (hl : l ≠ []) : ∃ x ∈ l, headFro l = x.fro := ⟨l.head hl, List.head_mem hl, (head_at hl).2⟩
theorem last_mem {l : List Span} (hl : l ≠ []) : ∃ x ∈ l, lastTo l = x.to := ⟨l.getLast hl, List.getLast_mem hl, (last_at hl).2⟩
/-- Within 0 to n. -/
def Within (l : List Span) (n : Int) : Prop := ∀ x ∈ l, 0 ≤ x.fro ∧ x.to ≤ n
instance (l : List Span) (n : Int) : Decidable (Within l n) := by unfold Within; exact inferInstance
theorem inside_iff {l : List Span} {n : Int} (h : chkL l = 0) : (l = [] ∨ 0 ≤ headFro l ∧ lastTo l ≤ n) ↔ Within l n := by
  have hc := ((chkL_iff l).1 h).2.1
  by_cases hl : l = []
  · subst hl
    simp [Within]
  · constructor
    · rintro (h | h)
      · exact (hl h).elim
      · intro x hx
        have := canon_bounds hc hl x hx
        omega
    · intro hw
      obtain ⟨x, hx, e1⟩ := head_mem hl
      obtain ⟨y, hy, e2⟩ := last_mem hl
      have := hw x hx
      have := hw y hy
      omega
theorem within_mem {l : List Span} {n t : Int} (h : Within l n) (m : memS t l) : 0 ≤ t ∧ t < n := by
  induction l with
  | nil => exact m.elim
  | cons x l ih =>
    rcases m with m | m
    · have := h x (by simp); omega
    · exact ih (fun y hy => h y (by simp [hy])) m
theorem mem_within {l : List Span} {b n : Int} (h : Canon b l) (hm : ∀ t, memS t l → 0 ≤ t ∧ t < n) : Within l n := by
  induction l generalizing b with
  | nil => intro x hx; cases hx
  | cons x l ih =>
    intro y hy
    rcases List.mem_cons.1 hy with rfl | hy
    · have := h.2.1
      have := hm y.fro (.inl ⟨by omega, by omega⟩)
      have := hm (y.to - 1) (.inl ⟨by omega, by omega⟩)
      omega
    · exact ih h.2.2 (fun t m => hm t (.inr m)) y hy
theorem chk_whole {d : ByteArray} (h : 1 ≤ d.size ∧ d.size ≤ 65536) : chkL (wholeS d) = 0 := by
  rw [chkL_iff]
  refine ⟨by simp [wholeS], ⟨by simp only; omega, by simp only; omega, trivial⟩, fun x hx => ?_⟩
  simp only [wholeS, List.mem_singleton] at hx
  subst hx
  simp only
  omega
theorem canon_len {l : List Span} : ∀ {b n : Int}, Canon b l → b < n → (∀ x ∈ l, x.to ≤ n) → (l.length : Int) ≤ n - b := by
  induction l with
  | nil => intro b n _ h _; simp; omega
  | cons x l ih =>
    intro b n h hb ht
    have h1 := h.1
    have h2 := h.2.1
    by_cases he : x.to < n
    · have := ih h.2.2 he (fun y hy => ht y (by simp [hy]))
      simp only [List.length_cons]
      omega
    · cases l with
      | nil => simp; omega
      | cons y l =>
        have := h.2.2.1
        have := h.2.2.2.1
        have := ht y (by simp)
        omega
/-- What is missing, if the acknowledged bytes are a set within the data. -/
theorem left_spec {d : ByteArray} {a : List Span} (hd : 1 ≤ d.size ∧ d.size ≤ 65536) (ha : chkL a = 0) (hw : Within a d.size) :
    Canon (-1152921504606846977) (min_ (wholeS d) a) ∧ Within (min_ (wholeS d) a) d.size ∧ ∀ t, memS t (min_ (wholeS d) a) ↔ (0 ≤ t ∧ t < d.size) ∧ ¬ memS t a := by
  obtain ⟨k1, k2⟩ := min_spec ((chkL_iff _).1 (chk_whole hd)).2.1 ((chkL_iff _).1 ha).2.1
  have hm : ∀ t, memS t (min_ (wholeS d) a) ↔ (0 ≤ t ∧ t < d.size) ∧ ¬ memS t a := fun t => by
    rw [k2 t]
    simp [wholeS, memS]
  exact ⟨k1, mem_within k1 fun t m => ((hm t).1 m).1, hm⟩
theorem left_nil {d : ByteArray} {a : List Span} (hd : 1 ≤ d.size ∧ d.size ≤ 65536) (ha : chkL a = 0) (hw : Within a d.size) : min_ (wholeS d) a = [] ↔ a = wholeS d := by
  obtain ⟨k1, k2, k3⟩ := left_spec hd ha hw
  constructor
  · intro h
    rw [h] at k3
    refine canon_unique ((chkL_iff _).1 ha).2.1 ((chkL_iff _).1 (chk_whole hd)).2.1 fun t => ?_
    have := k3 t
    simp only [memS, false_iff] at this
    simp only [wholeS, memS, or_false]
    constructor
    · exact fun m => within_mem hw m
    · intro h
      exact Classical.not_not.1 fun hn => this ⟨h, hn⟩
  · intro h
    cases hm : min_ (wholeS d) a with
    | nil => rfl
    | cons x l =>
      rw [hm] at k1 k3
      have := (k3 x.fro).1 (.inl ⟨Int.le_refl _, k1.2.1⟩)
      rw [h] at this
      exact (this.2 (by simp only [wholeS, memS]; exact .inl this.1)).elim
end Ab

set_option linter.unusedVariables false
set_option linter.unusedSimpArgs false
namespace Ab
open Go
theorem min_len {d : ByteArray} {a : List Span} (hd : 1 ≤ d.size ∧ d.size ≤ 65536) (ha : chkL a = 0) : (min_ (wholeS d) a).length ≤ a.length + 1 := by
  have h1 := (chkL_iff _).1 (chk_whole hd)
  have h2 := (chkL_iff _).1 ha
  rw [← min_eq h1.2.1 h2.2.1 h1.2.2 h2.2.2]
  have e : minusR (wholeS d) a = (outR (-1152921504606846976) a).filterMap (piece ⟨0, d.size⟩) := by
    show List.flatMap _ [_] = _
    simp
  rw [e]
  exact Nat.le_trans (List.length_filterMap_le _ _) (outR_len _ _)
theorem uni_len {a b : List Span} (ha : chkL a = 0) (hb : chkL b = 0) : (uni a b).length ≤ a.length + b.length := by
  rw [← uni_eq ((chkL_iff _).1 ha).2.1 ((chkL_iff _).1 hb).2.1]
  clear ha hb
  induction b generalizing a with
  | nil => simp [unionR]
  | cons x b ih =>
    have h1 := ih (a := insR x a)
    have h2 := insR_len x a
    show (unionR (insR x a) b).length ≤ _
    simp only [List.length_cons]
    omega
theorem left_eq {s : Snd} (hd : 1 ≤ s.data.size ∧ s.data.size ≤ 65536) (ha : chkL s.acked = 0) (hk : s.acked.length ≤ 900) : leftS s = min_ (wholeS s.data) s.acked := by
  have := min_len hd ha
  unfold leftS minusL
  rw [if_pos ⟨chk_whole hd, ha⟩, if_neg (by omega)]
theorem left_len {s : Snd} (hd : 1 ≤ s.data.size ∧ s.data.size ≤ 65536) (ha : chkL s.acked = 0) (hw : Within s.acked s.data.size) (hk : s.acked.length ≤ 900) : (leftS s).length = 0 ↔ complete s = true := by
  rw [left_eq hd ha hk, List.length_eq_zero_iff, left_nil hd ha hw]
  unfold complete
  rw [decide_eq_true_eq]
def ackStep (n : Int) (i : Nat) (_ : Unit) (x : Span) : Rd Unit Bool := if 0 ≤ x.fro ∧ x.to ≤ n then .next () else .done false
theorem ack_run (n : Int) : ∀ (l : List Span) (i : Nat), runL (ackStep n) (fun _ => true) i l () = decide (Within l n)
  | [], i => by simp [runL, Within]
  | x :: l, i => by
    have := ack_run n l (i + 1)
    simp only [runL, ackStep]
    by_cases h : 0 ≤ x.fro ∧ x.to ≤ n
    · rw [if_pos h]
      simp only
      rw [this, Bool.eq_iff_iff, decide_eq_true_eq, decide_eq_true_eq]
      unfold Within
      simp [h]
    · rw [if_neg h]
      simp only
      symm
      rw [decide_eq_false_iff_not]
      exact fun hw => h (hw x (by simp))
theorem s29 (s : Snd) (hk : s.acked.length ≤ 900) : Runs C 29 s.enc [tI (chkS s)] := by
  refine Runs.of (fun n => e29 n _ _ _ _ _ _ _ _ _ _ _ _ _ _ _) ?_
  unfold chkS
  by_cases hc : chkC s.c = 0
  · -- the part behind the ranges
    have hJ : Ev fun n => J29_3 n (s.acked.map Span.enc) s.data s.c.frm s.c.dst s.c.start s.c.fin s.c.rate s.c.rng s.c.loss s.ses s.fin s.busy s.ser s.due s.st (([.t (.bool (decide (¬ RngS s)))], []) : List AV × Heap) = some [tI (if chkF s ≠ 0 then chkF s else if fits s = true then 0 else 19)] := by
      unfold chkF
      by_cases hr : RngS s
      · by_cases ha : chkL s.acked = 0
        · have hla := chkL_len ha
          have hin := inside_iff (n := s.data.size) ha
          have key : Ev fun n => loopIter (fun (p19 : List AV × Heap) again => L29_2 n (s.acked.map Span.enc) s.data s.c.frm s.c.dst s.c.start s.c.fin s.c.rate s.c.rng s.c.loss s.ses s.fin s.busy s.ser s.due s.st p19 again) n (([.t (tI 0)], []) : List AV × Heap) = some [tI (if decide (Within s.acked s.data.size) = true then (if fits s = true then 0 else 19) else 1)] := by
            refine loop_overQ (fun (b : Bool) => [tI (if b = true then (if fits s = true then 0 else 19) else 1)]) s.acked (fun i (_ : Unit) => (([.t (tI i)], []) : List AV × Heap)) (ackStep s.data.size) (fun _ => true) (fun i _ => ∀ (j : Nat) x, j < i → s.acked[j]? = some x → 0 ≤ x.fro ∧ x.to ≤ s.data.size) () rfl (fun j x hj => by omega) (r := decide (Within s.acked s.data.size)) (ack_run _ _ 0) ?_ ?_ ?_
            · intro i u x hx hI
              refine Ev.of fun n again => ?_
              have hi := lt_of_some hx
              simp only [L29_2, vv, reduceCtorEq, Nat.reduceAdd, Nat.reduceEqDiff, hx, (show (i : Int) < (s.acked.length : Int) by omega), Span.enc, w64_succ (show i < 4611686018427387904 by omega), ackStep]
              by_cases h1 : x.fro < 0
              · simp [h1, (show ¬ 0 ≤ x.fro by omega), cnd_eq, Rd.go_done]
              · by_cases h2 : (s.data.size : Int) < x.to
                · simp [h1, h2, (show ¬ x.to ≤ (s.data.size : Int) by omega), cnd_eq, Rd.go_done]
                · simp [h1, h2, (show 0 ≤ x.fro by omega), (show x.to ≤ (s.data.size : Int) by omega), cnd_eq, Rd.go_next]
            · intro i u x u' hx hI he j y hj hy
              unfold ackStep at he
              split at he
              · rename_i hq
                rcases Nat.lt_or_ge j i with h | h
                · exact hI j y h hy
                · obtain rfl : j = i := by omega
                  rw [hx] at hy
                  cases hy
                  exact hq
              · cases he
            · intro u hI
              have hw : Within s.acked s.data.size := fun x hx => by
                obtain ⟨j, hj, rfl⟩ := List.mem_iff_getElem.1 hx
                exact hI j _ hj (List.getElem?_eq_getElem hj)
              have hl := left_len hr.2.1 ha hw hk
              have hd : w64 (w64 (s.busy + w64 (2 * s.c.rng)) + 1) = dueS s := by
                have hr' := hr
                have hcc := chkC_zero hc
                unfold RngS at hr'
                unfold ConOk at hcc
                rw [w64_id (x := 2 * s.c.rng) (by omega) (by omega), w64_id (x := s.busy + 2 * s.c.rng) (by omega) (by omega), w64_id (by omega) (by omega)]
                rfl
              refine (s45 s).mono fun n h again => ?_
              simp only [Snd.enc] at h
              simp only [L29_2, vv, reduceCtorEq, Nat.reduceAdd, Nat.reduceEqDiff, Int.lt_irrefl, h, J29_1, fits, hd]
              have hl' : ((leftS s).length : Int) = 0 ↔ complete s = true := by rw [← hl]; omega
              simp only [cnd_eq, beq_iff_eq, Bool.not_eq_true', hl', beq_eq_false_iff_ne, ne_eq]
              by_cases k1 : s.st = 1
              · cases complete s <;> simp [k1]
                by_cases k2 : s.due = dueS s <;> simp [k2]
              · by_cases k2 : s.st = 2
                · cases complete s <;> simp [k1, k2]
                  by_cases k3 : s.due = 0 <;> simp [k3]
                · by_cases k3 : s.st = 3
                  · simp [k1, k2, k3]
                    by_cases k4 : s.due = 0 <;> simp [k4]
                  · simp [k1, k2, k3]
          refine ((s55 s.acked).and key).mono fun n h => ?_
          obtain ⟨h1, h2⟩ := h
          have hA : AckS s ↔ Within s.acked s.data.size := by
            unfold AckS
            rw [← hin]
            exact ⟨fun h => h.2, fun h => ⟨ha, h⟩⟩
          simp only [J29_3, vv, reduceCtorEq, Nat.reduceAdd, Nat.reduceEqDiff, hr, not_true_eq_false, h1, ha, bne_self_eq_false, h2, hc, ne_eq, hA]
          by_cases hw : Within s.acked s.data.size <;> simp [hw]
        · have hA : ¬ AckS s := fun h => ha h.1
          refine (s55 s.acked).mono fun n h1 => ?_
          simp [J29_3, vv, reduceCtorEq, Nat.reduceAdd, Nat.reduceEqDiff, hr, h1, ha, hc, hA, cnd_eq]
      · refine Ev.of fun n => ?_
        simp [J29_3, vv, reduceCtorEq, Nat.reduceAdd, Nat.reduceEqDiff, hr, hc, cnd_eq]
    refine ((s38 s.c).and hJ).mono fun n h => ?_
    obtain ⟨h1, h2⟩ := h
    simp only [Con.enc] at h1
    simp only [h1, hc, vv, reduceCtorEq, Nat.reduceAdd, Nat.reduceEqDiff, bne_self_eq_false]
    have hb : ∀ b : Bool, b = decide (¬ RngS s) → J29_3 n (s.acked.map Span.enc) s.data s.c.frm s.c.dst s.c.start s.c.fin s.c.rate s.c.rng s.c.loss s.ses s.fin s.busy s.ser s.due s.st (([.t (.bool b)], []) : List AV × Heap) = some [tI (if chkF s ≠ 0 then chkF s else if fits s = true then 0 else 19)] := fun b e => by rw [e]; exact h2
    have hT : ∀ p : Prop, ¬ RngS s → true = decide (¬ RngS s) := fun p h => by symm; rw [decide_eq_true_eq]; exact h
    by_cases q1 : s.ses < 0
    · rw [cnd_pos q1]; exact hb _ (hT True (by unfold RngS; omega))
    rw [cnd_neg q1]
    by_cases q2 : 1099511627776 < s.ses
    · rw [cnd_pos q2]; exact hb _ (hT True (by unfold RngS; omega))
    rw [cnd_neg q2]
    by_cases q3 : (s.data.size : Int) < 1
    · rw [cnd_pos q3]; exact hb _ (hT True (by unfold RngS; omega))
    rw [cnd_neg q3]
    by_cases q4 : 65536 < (s.data.size : Int)
    · rw [cnd_pos q4]; exact hb _ (hT True (by unfold RngS; omega))
    rw [cnd_neg q4]
    by_cases q5 : s.busy < s.c.start
    · rw [cnd_pos q5]; exact hb _ (hT True (by unfold RngS; omega))
    rw [cnd_neg q5]
    by_cases q6 : s.fin < s.busy
    · rw [cnd_pos q6]; exact hb _ (hT True (by unfold RngS; omega))
    rw [cnd_neg q6]
    by_cases q7 : s.c.fin < s.fin
    · rw [cnd_pos q7]; exact hb _ (hT True (by unfold RngS; omega))
    rw [cnd_neg q7]
    by_cases q8 : s.ser < 1
    · rw [cnd_pos q8]; exact hb _ (hT True (by unfold RngS; omega))
    rw [cnd_neg q8]
    refine hb _ ?_
    rw [Bool.eq_iff_iff, decide_eq_true_eq, decide_eq_true_eq]
    unfold RngS
    omega
  · refine (s38 s.c).mono fun n h1 => ?_
    simp only [Con.enc] at h1
    simp [h1, hc, cnd_eq, vv, reduceCtorEq, Nat.reduceAdd, Nat.reduceEqDiff, chkF]
end Ab
