/- Parts of the proof: see the last text. -/
import Derived.Test.YthgemjameiibpaaDoorReE
set_option linter.unusedVariables false
set_option linter.unusedSimpArgs false
namespace Ab
open Go
def HH (g v : Nat) (es : List Span) (ins : Bool) (p q : List Span) (pi : Nat) (pb : Bool) (qi : Nat) (qb : Bool) : Heap := [.box [.func (.func g) [] []], .row false v 2 (es.map Span.enc), .box [.sref 1 v 0 es.length], .box [.t (.bool ins)], .box [], .box [.t (.sl 2 (p.map Span.enc)), .t (tI pi), .t (.bool pb)], .box [.t (.sl 2 (q.map Span.enc)), .t (tI qi), .t (.bool qb)]]
def nx (a : List Span) (i : Nat) (xi : Bool) : Option Int := match a[i]? with
  | none => none
  | some x => some (if xi then x.to else x.fro)
def nv (o : Option Int) : Int := o.getD 0
def fin (es : List Span) : List Tree := if 1000 < es.length then [.sl 2 [], tI 4] else [.sl 2 (es.map Span.enc), tI 0]
def pi_ (a : List Span) (i : Nat) (xi : Bool) (t : Int) : Nat := if nx a i xi = some t ∧ xi = true then i + 1 else i
def pb (a : List Span) (i : Nat) (xi : Bool) (t : Int) : Bool := if nx a i xi = some t then !xi else xi
def opn (cl : List Span) (o : Option Int) : List Span := match o with
  | none => cl
  | some s => cl ++ [⟨s, 0⟩]
def ncl (cl : List Span) (o : Option Int) (t : Int) (now : Bool) : List Span := match o, now with
  | some s, false => cl ++ [⟨s, t⟩]
  | _, _ => cl
def nop (o : Option Int) (t : Int) (now : Bool) : Option Int := if now then some (o.getD t) else none
theorem set_last {α : Type} (l : List α) (x y : α) (k : Nat) (h : k = l.length) : (l ++ [x]).set k y = l ++ [y] := by
  subst h
  induction l with
  | nil => rfl
  | cons z l ih => simp [ih]
def nver (v : Nat) (o : Option Int) (now : Bool) : Nat := match o, now with
  | none, true => v + 1
  | _, _ => v
theorem q1_67_1 (n : Nat) (ag : (List AV × Heap) → Option (List Tree)) (v : Nat) (es : List Span) (ins : Bool) (a b : List Span) (i j : Nat) (xi yi : Bool) (hi : i ≤ a.length) :
    L66_18 n (([], (HH 88 v es ins a b i xi j yi)) : List AV × Heap) ag = J66_17 n ag (([.t (tI (nv (nx a i xi))), .t (.bool (nx a i xi).isSome)], (HH 88 v es ins a b i xi j yi)) : List AV × Heap) := by
  unfold nx nv
  by_cases h : i = a.length
  · subst h
    have hx : a[a.length]? = none := List.getElem?_eq_none (Nat.le_refl _)
    simp only [L66_18, HH, vv, reduceCtorEq, Nat.reduceAdd, Nat.reduceEqDiff, hx, beq_self_eq_true, Option.isSome_none, Option.getD_none]
  · obtain ⟨x, hx⟩ : ∃ x, a[i]? = some x := ⟨a[i]'(by omega), List.getElem?_eq_getElem (by omega)⟩
    have h' : ¬ ((i : Int) = (a.length : Int)) := by omega
    cases xi <;> simp only [L66_18, HH, vv, reduceCtorEq, Nat.reduceAdd, Nat.reduceEqDiff, hx, h', beq_iff_eq, Span.enc, Option.isSome_some, Option.getD_some]
theorem q2_67_1 (n : Nat) (ag : (List AV × Heap) → Option (List Tree)) (m : Int) (fx : Bool) (v : Nat) (es : List Span) (ins : Bool) (a b : List Span) (i j : Nat) (xi yi : Bool) (hj : j ≤ b.length) :
    J66_17 n ag (([.t (tI m), .t (.bool fx)], (HH 88 v es ins a b i xi j yi)) : List AV × Heap) = J66_16 n ag (([.t (tI m), .t (.bool fx)], (HH 88 v es ins a b i xi j yi)) : List AV × Heap) (([.t (tI (nv (nx b j yi))), .t (.bool (nx b j yi).isSome)], (HH 88 v es ins a b i xi j yi)) : List AV × Heap) := by
  unfold nx nv
  by_cases h : j = b.length
  · subst h
    have hx : b[b.length]? = none := List.getElem?_eq_none (Nat.le_refl _)
    simp only [J66_17, HH, vv, reduceCtorEq, Nat.reduceAdd, Nat.reduceEqDiff, hx, beq_self_eq_true, Option.isSome_none, Option.getD_none]
  · obtain ⟨x, hx⟩ : ∃ x, b[j]? = some x := ⟨b[j]'(by omega), List.getElem?_eq_getElem (by omega)⟩
    have h' : ¬ ((j : Int) = (b.length : Int)) := by omega
    cases yi <;> simp only [J66_17, HH, vv, reduceCtorEq, Nat.reduceAdd, Nat.reduceEqDiff, hx, h', beq_iff_eq, Span.enc, Option.isSome_some, Option.getD_some]
theorem q3_67_1 (n : Nat) (ag : (List AV × Heap) → Option (List Tree)) (ox oy : Option Int) (v : Nat) (es : List Span) (ins : Bool) (a b : List Span) (i j : Nat) (xi yi : Bool) :
    J66_16 n ag (([.t (tI (nv ox)), .t (.bool ox.isSome)], (HH 88 v es ins a b i xi j yi)) : List AV × Heap) (([.t (tI (nv oy)), .t (.bool oy.isSome)], (HH 88 v es ins a b i xi j yi)) : List AV × Heap) = match tmin ox oy with
      | none => some (fin es)
      | some t => J66_13 n ag (([.t (tI t)], (HH 88 v es ins a b i xi j yi)) : List AV × Heap) := by
  have hl : ∀ l : List Span, List.take l.length (List.map Span.enc l) = List.map Span.enc l := fun l => by rw [List.take_of_length_le (by simp)]
  cases ox with
  | none => cases oy with
    | none =>
      simp only [J66_16, J66_15, HH, vv, reduceCtorEq, Nat.reduceAdd, Nat.reduceEqDiff, tmin, nv, Option.isSome_none, Option.getD_none, fin]
      by_cases h : 1000 < es.length
      · simp only [h, (show (1000 : Int) < (es.length : Int) by omega), vv, reduceCtorEq, Nat.reduceAdd, Nat.reduceEqDiff]
      · simp only [h, (show ¬ (1000 : Int) < (es.length : Int) by omega), vv, reduceCtorEq, Nat.reduceAdd, Nat.reduceEqDiff, hl]
    | some m => simp only [J66_16, J66_15, J66_14, HH, vv, reduceCtorEq, Nat.reduceAdd, Nat.reduceEqDiff, tmin, nv, Option.isSome_none, Option.isSome_some, Option.getD_none, Option.getD_some]
  | some k => cases oy with
    | none => simp only [J66_16, J66_15, J66_14, HH, vv, reduceCtorEq, Nat.reduceAdd, Nat.reduceEqDiff, tmin, nv, Option.isSome_none, Option.isSome_some, Option.getD_none, Option.getD_some]
    | some m =>
      simp only [J66_16, J66_15, J66_14, HH, vv, reduceCtorEq, Nat.reduceAdd, Nat.reduceEqDiff, tmin, nv, Option.isSome_none, Option.isSome_some, Option.getD_none, Option.getD_some]
      by_cases h : m < k <;> simp only [h, vv, reduceCtorEq, Nat.reduceAdd, Nat.reduceEqDiff]
theorem q4_67_1 (n : Nat) (ag : (List AV × Heap) → Option (List Tree)) (t : Int) (v : Nat) (es : List Span) (ins : Bool) (a b : List Span) (i j : Nat) (xi yi : Bool) (hi : i ≤ a.length) (hl : a.length ≤ 1000) :
    J66_13 n ag (([.t (tI t)], (HH 88 v es ins a b i xi j yi)) : List AV × Heap) = J66_12 n ag (([.t (tI t)], (HH 88 v es ins a b i xi j yi)) : List AV × Heap) (([], (HH 88 v es ins a b (pi_ a i xi t) (pb a i xi t) j yi)) : List AV × Heap) := by
  unfold pi_ pb nx
  by_cases h : i = a.length
  · subst h
    have hx : a[a.length]? = none := List.getElem?_eq_none (Nat.le_refl _)
    simp only [J66_13, J66_3, J66_2, J66_1, HH, vv, reduceCtorEq, Nat.reduceAdd, Nat.reduceEqDiff, hx, beq_self_eq_true]
  · obtain ⟨x, hx⟩ : ∃ x, a[i]? = some x := ⟨a[i]'(by omega), List.getElem?_eq_getElem (by omega)⟩
    have h' : ¬ ((i : Int) = (a.length : Int)) := by omega
    cases xi
    · by_cases hq : x.fro = t <;> simp only [J66_13, J66_3, J66_2, J66_1, HH, vv, reduceCtorEq, Nat.reduceAdd, Nat.reduceEqDiff, hx, h', hq, beq_iff_eq, Span.enc, bne_iff_ne, ne_eq, not_true_eq_false, not_false_eq_true, Option.some.injEq]
    · by_cases hq : x.to = t <;> simp only [J66_13, J66_3, J66_2, J66_1, HH, vv, reduceCtorEq, Nat.reduceAdd, Nat.reduceEqDiff, hx, h', hq, beq_iff_eq, Span.enc, bne_iff_ne, ne_eq, not_true_eq_false, not_false_eq_true, Option.some.injEq, w64_succ (show i < 4611686018427387904 by omega), Int.natCast_add, nc1]
theorem q5_67_1 (n : Nat) (ag : (List AV × Heap) → Option (List Tree)) (t : Int) (Hp : Heap) (v : Nat) (es : List Span) (ins : Bool) (a b : List Span) (i j : Nat) (xi yi : Bool) (hj : j ≤ b.length) (hl : b.length ≤ 1000) :
    J66_12 n ag (([.t (tI t)], Hp) : List AV × Heap) (([], (HH 88 v es ins a b i xi j yi)) : List AV × Heap) = J66_11 n ag (([.t (tI t)], Hp) : List AV × Heap) (([], (HH 88 v es ins a b i xi (pi_ b j yi t) (pb b j yi t))) : List AV × Heap) := by
  unfold pi_ pb nx
  by_cases h : j = b.length
  · subst h
    have hx : b[b.length]? = none := List.getElem?_eq_none (Nat.le_refl _)
    simp only [J66_12, J66_6, J66_5, J66_4, HH, vv, reduceCtorEq, Nat.reduceAdd, Nat.reduceEqDiff, hx, beq_self_eq_true]
  · obtain ⟨x, hx⟩ : ∃ x, b[j]? = some x := ⟨b[j]'(by omega), List.getElem?_eq_getElem (by omega)⟩
    have h' : ¬ ((j : Int) = (b.length : Int)) := by omega
    cases yi
    · by_cases hq : x.fro = t <;> simp only [J66_12, J66_6, J66_5, J66_4, HH, vv, reduceCtorEq, Nat.reduceAdd, Nat.reduceEqDiff, hx, h', hq, beq_iff_eq, Span.enc, bne_iff_ne, ne_eq, not_true_eq_false, not_false_eq_true, Option.some.injEq]
    · by_cases hq : x.to = t <;> simp only [J66_12, J66_6, J66_5, J66_4, HH, vv, reduceCtorEq, Nat.reduceAdd, Nat.reduceEqDiff, hx, h', hq, beq_iff_eq, Span.enc, bne_iff_ne, ne_eq, not_true_eq_false, not_false_eq_true, Option.some.injEq, w64_succ (show j < 4611686018427387904 by omega), Int.natCast_add, nc1]
theorem q6_67_1 (n : Nat) (ag : (List AV × Heap) → Option (List Tree)) (t : Int) (Hp : Heap) (cl : List Span) (o : Option Int) (v : Nat) (a b : List Span) (i j : Nat) (xi yi : Bool) (hl : cl.length ≤ 1000000)
    (hf : apure C n 88 [Tree.bool xi, Tree.bool yi] = some [Tree.bool (xi || yi)]) :
    J66_11 n ag (([.t (tI t)], Hp) : List AV × Heap) (([], (HH 88 v (opn cl o) o.isSome a b i xi j yi)) : List AV × Heap) =
      ag (([], (HH 88 (nver v o (xi || yi)) (opn (ncl cl o t (xi || yi)) (nop o t (xi || yi))) (nop o t (xi || yi)).isSome a b i xi j yi)) : List AV × Heap) := by
  have hm : ∀ l : List Span, List.take l.length (List.map Span.enc l) = List.map Span.enc l := fun l => by rw [List.take_of_length_le (by simp)]
  generalize hnow : (xi || yi) = now at *
  cases o with
  | none =>
    cases now with
    | true => simp only [J66_11, J66_10, J66_9, J66_8, J66_7, HH, vv, reduceCtorEq, Nat.reduceAdd, Nat.reduceEqDiff, hf, opn, ncl, nop, nver, Option.isSome_none, Option.isSome_some, Bool.not_false, List.append_nil, hm, List.map_append, List.map_cons, List.map_nil, Span.enc, (show cl.length + 1 ≤ 1073741824 by omega), Option.getD_none, List.length_append, Nat.le_refl]
    | false => simp only [J66_11, J66_10, J66_9, J66_8, J66_7, HH, vv, reduceCtorEq, Nat.reduceAdd, Nat.reduceEqDiff, hf, opn, ncl, nop, nver, Option.isSome_none, Option.isSome_some, Bool.not_false, List.append_nil]
  | some s =>
    cases now with
    | true => simp only [J66_11, J66_10, J66_9, J66_8, J66_7, HH, vv, reduceCtorEq, Nat.reduceAdd, Nat.reduceEqDiff, hf, opn, ncl, nop, nver, Option.isSome_none, Option.isSome_some, Bool.not_true, Option.getD_some]
    | false =>
      have e1 : w64 (((cl.length + 1 : Nat) : Int) - 1) = (cl.length : Int) := by rw [w64_id (by omega) (by omega)]; omega
      have e2 : (List.map Span.enc cl ++ [[tI s, tI 0]])[cl.length]? = some [tI s, tI 0] := by rw [List.getElem?_append_right (by simp)]; simp
      have e3 : (List.map Span.enc cl ++ [[tI s, tI 0]]).set cl.length [tI s, tI t] = List.map Span.enc cl ++ [[tI s, tI t]] := set_last _ _ _ cl.length (by simp)
      simp only [J66_11, J66_10, J66_9, J66_8, J66_7, HH, vv, reduceCtorEq, Nat.reduceAdd, Nat.reduceEqDiff, hf, opn, ncl, nop, nver, Option.isSome_none, Option.isSome_some, Bool.not_true, List.append_nil, List.map_append, List.map_cons, List.map_nil, Span.enc, List.length_append, e1, e2, e3, List.take, List.drop, List.cons_append, List.nil_append, (show (cl.length : Int) < ((cl.length + 1 : Nat) : Int) by omega), Nat.le_refl]

theorem q1_67_2 (n : Nat) (ag : (List AV × Heap) → Option (List Tree)) (v : Nat) (es : List Span) (ins : Bool) (a b : List Span) (i j : Nat) (xi yi : Bool) (hi : i ≤ a.length) :
    L66_36 n (([], (HH 88 v es ins b a j yi i xi)) : List AV × Heap) ag = J66_35 n ag (([.t (tI (nv (nx a i xi))), .t (.bool (nx a i xi).isSome)], (HH 88 v es ins b a j yi i xi)) : List AV × Heap) := by
  unfold nx nv
  by_cases h : i = a.length
  · subst h
    have hx : a[a.length]? = none := List.getElem?_eq_none (Nat.le_refl _)
    simp only [L66_36, HH, vv, reduceCtorEq, Nat.reduceAdd, Nat.reduceEqDiff, hx, beq_self_eq_true, Option.isSome_none, Option.getD_none]
  · obtain ⟨x, hx⟩ : ∃ x, a[i]? = some x := ⟨a[i]'(by omega), List.getElem?_eq_getElem (by omega)⟩
    have h' : ¬ ((i : Int) = (a.length : Int)) := by omega
    cases xi <;> simp only [L66_36, HH, vv, reduceCtorEq, Nat.reduceAdd, Nat.reduceEqDiff, hx, h', beq_iff_eq, Span.enc, Option.isSome_some, Option.getD_some]
theorem q2_67_2 (n : Nat) (ag : (List AV × Heap) → Option (List Tree)) (m : Int) (fx : Bool) (v : Nat) (es : List Span) (ins : Bool) (a b : List Span) (i j : Nat) (xi yi : Bool) (hj : j ≤ b.length) :
    J66_35 n ag (([.t (tI m), .t (.bool fx)], (HH 88 v es ins b a j yi i xi)) : List AV × Heap) = J66_34 n ag (([.t (tI m), .t (.bool fx)], (HH 88 v es ins b a j yi i xi)) : List AV × Heap) (([.t (tI (nv (nx b j yi))), .t (.bool (nx b j yi).isSome)], (HH 88 v es ins b a j yi i xi)) : List AV × Heap) := by
  unfold nx nv
  by_cases h : j = b.length
  · subst h
    have hx : b[b.length]? = none := List.getElem?_eq_none (Nat.le_refl _)
    simp only [J66_35, HH, vv, reduceCtorEq, Nat.reduceAdd, Nat.reduceEqDiff, hx, beq_self_eq_true, Option.isSome_none, Option.getD_none]
  · obtain ⟨x, hx⟩ : ∃ x, b[j]? = some x := ⟨b[j]'(by omega), List.getElem?_eq_getElem (by omega)⟩
    have h' : ¬ ((j : Int) = (b.length : Int)) := by omega
    cases yi <;> simp only [J66_35, HH, vv, reduceCtorEq, Nat.reduceAdd, Nat.reduceEqDiff, hx, h', beq_iff_eq, Span.enc, Option.isSome_some, Option.getD_some]
theorem q3_67_2 (n : Nat) (ag : (List AV × Heap) → Option (List Tree)) (ox oy : Option Int) (v : Nat) (es : List Span) (ins : Bool) (a b : List Span) (i j : Nat) (xi yi : Bool) :
    J66_34 n ag (([.t (tI (nv ox)), .t (.bool ox.isSome)], (HH 88 v es ins b a j yi i xi)) : List AV × Heap) (([.t (tI (nv oy)), .t (.bool oy.isSome)], (HH 88 v es ins b a j yi i xi)) : List AV × Heap) = match tmin ox oy with
      | none => some (fin es)
      | some t => J66_31 n ag (([.t (tI t)], (HH 88 v es ins b a j yi i xi)) : List AV × Heap) := by
  have hl : ∀ l : List Span, List.take l.length (List.map Span.enc l) = List.map Span.enc l := fun l => by rw [List.take_of_length_le (by simp)]
  cases ox with
  | none => cases oy with
    | none =>
      simp only [J66_34, J66_33, HH, vv, reduceCtorEq, Nat.reduceAdd, Nat.reduceEqDiff, tmin, nv, Option.isSome_none, Option.getD_none, fin]
      by_cases h : 1000 < es.length
      · simp only [h, (show (1000 : Int) < (es.length : Int) by omega), vv, reduceCtorEq, Nat.reduceAdd, Nat.reduceEqDiff]
      · simp only [h, (show ¬ (1000 : Int) < (es.length : Int) by omega), vv, reduceCtorEq, Nat.reduceAdd, Nat.reduceEqDiff, hl]
    | some m => simp only [J66_34, J66_33, J66_32, HH, vv, reduceCtorEq, Nat.reduceAdd, Nat.reduceEqDiff, tmin, nv, Option.isSome_none, Option.isSome_some, Option.getD_none, Option.getD_some]
  | some k => cases oy with
    | none => simp only [J66_34, J66_33, J66_32, HH, vv, reduceCtorEq, Nat.reduceAdd, Nat.reduceEqDiff, tmin, nv, Option.isSome_none, Option.isSome_some, Option.getD_none, Option.getD_some]
    | some m =>
      simp only [J66_34, J66_33, J66_32, HH, vv, reduceCtorEq, Nat.reduceAdd, Nat.reduceEqDiff, tmin, nv, Option.isSome_none, Option.isSome_some, Option.getD_none, Option.getD_some]
      by_cases h : m < k <;> simp only [h, vv, reduceCtorEq, Nat.reduceAdd, Nat.reduceEqDiff]
theorem q4_67_2 (n : Nat) (ag : (List AV × Heap) → Option (List Tree)) (t : Int) (v : Nat) (es : List Span) (ins : Bool) (a b : List Span) (i j : Nat) (xi yi : Bool) (hi : i ≤ a.length) (hl : a.length ≤ 1000) :
    J66_31 n ag (([.t (tI t)], (HH 88 v es ins b a j yi i xi)) : List AV × Heap) = J66_30 n ag (([.t (tI t)], (HH 88 v es ins b a j yi i xi)) : List AV × Heap) (([], (HH 88 v es ins b a j yi (pi_ a i xi t) (pb a i xi t))) : List AV × Heap) := by
  unfold pi_ pb nx
  by_cases h : i = a.length
  · subst h
    have hx : a[a.length]? = none := List.getElem?_eq_none (Nat.le_refl _)
    simp only [J66_31, J66_21, J66_20, J66_19, HH, vv, reduceCtorEq, Nat.reduceAdd, Nat.reduceEqDiff, hx, beq_self_eq_true]
  · obtain ⟨x, hx⟩ : ∃ x, a[i]? = some x := ⟨a[i]'(by omega), List.getElem?_eq_getElem (by omega)⟩
    have h' : ¬ ((i : Int) = (a.length : Int)) := by omega
    cases xi
    · by_cases hq : x.fro = t <;> simp only [J66_31, J66_21, J66_20, J66_19, HH, vv, reduceCtorEq, Nat.reduceAdd, Nat.reduceEqDiff, hx, h', hq, beq_iff_eq, Span.enc, bne_iff_ne, ne_eq, not_true_eq_false, not_false_eq_true, Option.some.injEq]
    · by_cases hq : x.to = t <;> simp only [J66_31, J66_21, J66_20, J66_19, HH, vv, reduceCtorEq, Nat.reduceAdd, Nat.reduceEqDiff, hx, h', hq, beq_iff_eq, Span.enc, bne_iff_ne, ne_eq, not_true_eq_false, not_false_eq_true, Option.some.injEq, w64_succ (show i < 4611686018427387904 by omega), Int.natCast_add, nc1]
theorem q5_67_2 (n : Nat) (ag : (List AV × Heap) → Option (List Tree)) (t : Int) (Hp : Heap) (v : Nat) (es : List Span) (ins : Bool) (a b : List Span) (i j : Nat) (xi yi : Bool) (hj : j ≤ b.length) (hl : b.length ≤ 1000) :
    J66_30 n ag (([.t (tI t)], Hp) : List AV × Heap) (([], (HH 88 v es ins b a j yi i xi)) : List AV × Heap) = J66_29 n ag (([.t (tI t)], Hp) : List AV × Heap) (([], (HH 88 v es ins b a (pi_ b j yi t) (pb b j yi t) i xi)) : List AV × Heap) := by
  unfold pi_ pb nx
  by_cases h : j = b.length
  · subst h
    have hx : b[b.length]? = none := List.getElem?_eq_none (Nat.le_refl _)
    simp only [J66_30, J66_24, J66_23, J66_22, HH, vv, reduceCtorEq, Nat.reduceAdd, Nat.reduceEqDiff, hx, beq_self_eq_true]
  · obtain ⟨x, hx⟩ : ∃ x, b[j]? = some x := ⟨b[j]'(by omega), List.getElem?_eq_getElem (by omega)⟩
    have h' : ¬ ((j : Int) = (b.length : Int)) := by omega
    cases yi
    · by_cases hq : x.fro = t <;> simp only [J66_30, J66_24, J66_23, J66_22, HH, vv, reduceCtorEq, Nat.reduceAdd, Nat.reduceEqDiff, hx, h', hq, beq_iff_eq, Span.enc, bne_iff_ne, ne_eq, not_true_eq_false, not_false_eq_true, Option.some.injEq]
    · by_cases hq : x.to = t <;> simp only [J66_30, J66_24, J66_23, J66_22, HH, vv, reduceCtorEq, Nat.reduceAdd, Nat.reduceEqDiff, hx, h', hq, beq_iff_eq, Span.enc, bne_iff_ne, ne_eq, not_true_eq_false, not_false_eq_true, Option.some.injEq, w64_succ (show j < 4611686018427387904 by omega), Int.natCast_add, nc1]
theorem q6_67_2 (n : Nat) (ag : (List AV × Heap) → Option (List Tree)) (t : Int) (Hp : Heap) (cl : List Span) (o : Option Int) (v : Nat) (a b : List Span) (i j : Nat) (xi yi : Bool) (hl : cl.length ≤ 1000000)
    (hf : apure C n 88 [Tree.bool xi, Tree.bool yi] = some [Tree.bool (xi || yi)]) :
    J66_29 n ag (([.t (tI t)], Hp) : List AV × Heap) (([], (HH 88 v (opn cl o) o.isSome b a j yi i xi)) : List AV × Heap) =
      ag (([], (HH 88 (nver v o (xi || yi)) (opn (ncl cl o t (xi || yi)) (nop o t (xi || yi))) (nop o t (xi || yi)).isSome b a j yi i xi)) : List AV × Heap) := by
  have hm : ∀ l : List Span, List.take l.length (List.map Span.enc l) = List.map Span.enc l := fun l => by rw [List.take_of_length_le (by simp)]
  generalize hnow : (xi || yi) = now at *
  cases o with
  | none =>
    cases now with
    | true => simp only [J66_29, J66_28, J66_27, J66_26, J66_25, HH, vv, reduceCtorEq, Nat.reduceAdd, Nat.reduceEqDiff, hf, opn, ncl, nop, nver, Option.isSome_none, Option.isSome_some, Bool.not_false, List.append_nil, hm, List.map_append, List.map_cons, List.map_nil, Span.enc, (show cl.length + 1 ≤ 1073741824 by omega), Option.getD_none, List.length_append, Nat.le_refl]
    | false => simp only [J66_29, J66_28, J66_27, J66_26, J66_25, HH, vv, reduceCtorEq, Nat.reduceAdd, Nat.reduceEqDiff, hf, opn, ncl, nop, nver, Option.isSome_none, Option.isSome_some, Bool.not_false, List.append_nil]
  | some s =>
    cases now with
    | true => simp only [J66_29, J66_28, J66_27, J66_26, J66_25, HH, vv, reduceCtorEq, Nat.reduceAdd, Nat.reduceEqDiff, hf, opn, ncl, nop, nver, Option.isSome_none, Option.isSome_some, Bool.not_true, Option.getD_some]
    | false =>
      have e1 : w64 (((cl.length + 1 : Nat) : Int) - 1) = (cl.length : Int) := by rw [w64_id (by omega) (by omega)]; omega
      have e2 : (List.map Span.enc cl ++ [[tI s, tI 0]])[cl.length]? = some [tI s, tI 0] := by rw [List.getElem?_append_right (by simp)]; simp
      have e3 : (List.map Span.enc cl ++ [[tI s, tI 0]]).set cl.length [tI s, tI t] = List.map Span.enc cl ++ [[tI s, tI t]] := set_last _ _ _ cl.length (by simp)
      simp only [J66_29, J66_28, J66_27, J66_26, J66_25, HH, vv, reduceCtorEq, Nat.reduceAdd, Nat.reduceEqDiff, hf, opn, ncl, nop, nver, Option.isSome_none, Option.isSome_some, Bool.not_true, List.append_nil, List.map_append, List.map_cons, List.map_nil, Span.enc, List.length_append, e1, e2, e3, List.take, List.drop, List.cons_append, List.nil_append, (show (cl.length : Int) < ((cl.length + 1 : Nat) : Int) by omega), Nat.le_refl]

end Ab

set_option linter.unusedVariables false
set_option linter.unusedSimpArgs false
namespace Ab
open Go
theorem sd_next (a : List Span) (i : Nat) (xi : Bool) : (⟨a.drop i, xi⟩ : Sd).next = nx a i xi := by
  unfold Sd.next nx
  have : (a.drop i)[0]? = a[i]? := by rw [List.getElem?_drop]; simp
  cases h : a.drop i with
  | nil =>
    rw [h] at this
    have hx : a[i]? = none := this.symm
    rw [hx]
  | cons x l =>
    rw [h] at this
    have hx : a[i]? = some x := this.symm
    rw [hx]
theorem sd_pass (a : List Span) (i : Nat) (xi : Bool) (t : Int) : (⟨a.drop i, xi⟩ : Sd).pass t = ⟨a.drop (pi_ a i xi t), pb a i xi t⟩ := by
  unfold Sd.pass pi_ pb
  rw [sd_next]
  by_cases h : nx a i xi = some t
  · cases xi <;> simp [h, List.drop_drop]
  · simp [h]
theorem nx_lt {a : List Span} {i : Nat} {xi : Bool} {t : Int} (h : nx a i xi = some t) : i < a.length := by
  unfold nx at h
  split at h
  · cases h
  · rename_i x hx; exact lt_of_some hx
theorem nx_none {a : List Span} {i : Nat} {xi : Bool} (h : nx a i xi = none) : a.length ≤ i := by
  unfold nx at h
  split at h
  · rename_i hx; exact List.getElem?_eq_none_iff.1 hx
  · cases h
theorem pi_le {a : List Span} {i : Nat} {xi : Bool} {t : Int} (hi : i ≤ a.length) (he : i = a.length → xi = false) : pi_ a i xi t ≤ a.length ∧ (pi_ a i xi t = a.length → pb a i xi t = false) := by
  unfold pi_ pb
  by_cases h : nx a i xi = some t
  · have := nx_lt h
    cases xi
    · simp [h]; omega
    · simp [h]; omega
  · simp [h]; exact ⟨hi, he⟩
theorem sweep_loop (f : Bool → Bool → Bool) (hff : f false false = false) (a b : List Span) (Hs : Nat → List Span → Bool → Nat → Bool → Nat → Bool → Heap) (body : (List AV × Heap) → ((List AV × Heap) → Option (List Tree)) → Option (List Tree))
    (hstep : ∀ ag v cl o i xi j yi, i ≤ a.length → j ≤ b.length → cl.length ≤ 1000000 → body (([], Hs v (opn cl o) o.isSome i xi j yi) : List AV × Heap) ag = match tmin (nx a i xi) (nx b j yi) with
      | none => some (fin (opn cl o))
      | some t => ag (([], Hs (nver v o (f (pb a i xi t) (pb b j yi t))) (opn (ncl cl o t (f (pb a i xi t) (pb b j yi t))) (nop o t (f (pb a i xi t) (pb b j yi t)))) (nop o t (f (pb a i xi t) (pb b j yi t))).isSome (pi_ a i xi t) (pb a i xi t) (pi_ b j yi t) (pb b j yi t)) : List AV × Heap)) :
    ∀ k v cl o i xi j yi, i ≤ a.length → j ≤ b.length → (i = a.length → xi = false) → (j = b.length → yi = false) → o.isSome = f xi yi → cl.length + (Sd.sz ⟨a.drop i, xi⟩ + Sd.sz ⟨b.drop j, yi⟩) ≤ 1000000 → Sd.sz ⟨a.drop i, xi⟩ + Sd.sz ⟨b.drop j, yi⟩ < k →
      loopIter body k (([], Hs v (opn cl o) o.isSome i xi j yi) : List AV × Heap) = some (fin (cl ++ go f ⟨a.drop i, xi⟩ ⟨b.drop j, yi⟩ o)) := by
  intro k
  induction k with
  | zero => intro v cl o i xi j yi h1 h2 h3 h4 h5 h6 h7; omega
  | succ k ih =>
    intro v cl o i xi j yi h1 h2 h3 h4 h5 h6 h7
    show body _ (loopIter body k) = _
    rw [hstep _ v cl o i xi j yi h1 h2 (by omega)]
    have e1 := sd_next a i xi
    have e2 := sd_next b j yi
    cases h : tmin (nx a i xi) (nx b j yi) with
    | none =>
      obtain ⟨g1, g2⟩ := tmin_none h
      have := nx_none g1
      have := nx_none g2
      rw [h3 (by omega), h4 (by omega), hff] at h5
      obtain rfl : o = none := by cases o <;> simp at h5 ⊢
      rw [go_none (by rw [e1, e2]; exact h)]
      simp [opn]
    | some t =>
      have h' : tmin (Sd.next ⟨a.drop i, xi⟩) (Sd.next ⟨b.drop j, yi⟩) = some t := by rw [e1, e2]; exact h
      have p1 := sd_pass a i xi t
      have p2 := sd_pass b j yi t
      obtain ⟨m1, _, _⟩ := tmin_some h'
      have z1 := Sd.pass_sz ⟨a.drop i, xi⟩ t
      have z2 := Sd.pass_sz ⟨b.drop j, yi⟩ t
      rw [p1] at z1
      rw [p2] at z2
      have hsz : Sd.sz ⟨a.drop (pi_ a i xi t), pb a i xi t⟩ + Sd.sz ⟨b.drop (pi_ b j yi t), pb b j yi t⟩ < Sd.sz ⟨a.drop i, xi⟩ + Sd.sz ⟨b.drop j, yi⟩ := by
        rcases m1 with m | m
        · have := z1.2 m; omega
        · have := z2.2 m; omega
      have hcl : (ncl cl o t (f (pb a i xi t) (pb b j yi t))).length ≤ cl.length + 1 := by
        unfold ncl
        split <;> simp
      have hno : (nop o t (f (pb a i xi t) (pb b j yi t))).isSome = f (pb a i xi t) (pb b j yi t) := by
        unfold nop
        split <;> simp_all
      simp only
      obtain ⟨b1, b2⟩ := pi_le (t := t) h1 h3
      obtain ⟨b3, b4⟩ := pi_le (t := t) h2 h4
      rw [ih _ _ _ _ _ _ _ b1 b3 b2 b4 hno (by omega) (by omega)]
      rw [go_some h', p1, p2]
      simp only
      congr 2
      cases hnow : f (pb a i xi t) (pb b j yi t) with
      | true => cases o <;> simp [ncl, nop]
      | false => cases o <;> simp [ncl, nop]

theorem sw_67_1 (n : Nat) (a b : List Span) (ha : a.length ≤ 1000) (hb : b.length ≤ 1000) (hf : ∀ xi yi, apure C n 88 [Tree.bool xi, Tree.bool yi] = some [Tree.bool (xi || yi)]) (hn : 5000 ≤ n) :
    loopIter (fun (p : List AV × Heap) again => L66_18 n p again) n (([], HH 88 0 [] false a b 0 false 0 false) : List AV × Heap) = some (fin (go (fun xi yi => xi || yi) ⟨a, false⟩ ⟨b, false⟩ none)) := by
  have := sweep_loop (fun xi yi => xi || yi) rfl a b (fun v es ins i xi j yi => HH 88 v es ins a b i xi j yi) (fun (p : List AV × Heap) again => L66_18 n p again) (fun ag v cl o i xi j yi hi hj hc => by
    rw [q1_67_1 n ag v (opn cl o) o.isSome a b i j xi yi hi, q2_67_1 n ag _ _ v (opn cl o) o.isSome a b i j xi yi hj, q3_67_1 n ag (nx a i xi) (nx b j yi) v (opn cl o) o.isSome a b i j xi yi]
    cases htm : tmin (nx a i xi) (nx b j yi) with
    | none => rfl
    | some t =>
      simp only
      rw [q4_67_1 n ag t v (opn cl o) o.isSome a b i j xi yi hi ha, q5_67_1 n ag t _ v (opn cl o) o.isSome a b _ j _ yi hj hb, q6_67_1 n ag t _ cl o v a b _ _ _ _ hc (hf _ _)]) n 0 [] none 0 false 0 false (Nat.zero_le _) (Nat.zero_le _) (fun _ => rfl) (fun _ => rfl) rfl (by simp only [Sd.sz, List.drop_zero, List.length_nil, Bool.false_eq_true, if_false]; omega) (by simp only [Sd.sz, List.drop_zero, Bool.false_eq_true, if_false]; omega)
  simpa [opn] using this

theorem sw_67_2 (n : Nat) (a b : List Span) (ha : a.length ≤ 1000) (hb : b.length ≤ 1000) (hf : ∀ xi yi, apure C n 88 [Tree.bool xi, Tree.bool yi] = some [Tree.bool (xi || yi)]) (hn : 5000 ≤ n) :
    loopIter (fun (p : List AV × Heap) again => L66_36 n p again) n (([], HH 88 0 [] false b a 0 false 0 false) : List AV × Heap) = some (fin (go (fun xi yi => xi || yi) ⟨a, false⟩ ⟨b, false⟩ none)) := by
  have := sweep_loop (fun xi yi => xi || yi) rfl a b (fun v es ins i xi j yi => HH 88 v es ins b a j yi i xi) (fun (p : List AV × Heap) again => L66_36 n p again) (fun ag v cl o i xi j yi hi hj hc => by
    rw [q1_67_2 n ag v (opn cl o) o.isSome a b i j xi yi hi, q2_67_2 n ag _ _ v (opn cl o) o.isSome a b i j xi yi hj, q3_67_2 n ag (nx a i xi) (nx b j yi) v (opn cl o) o.isSome a b i j xi yi]
    cases htm : tmin (nx a i xi) (nx b j yi) with
    | none => rfl
    | some t =>
      simp only
      rw [q4_67_2 n ag t v (opn cl o) o.isSome a b i j xi yi hi ha, q5_67_2 n ag t _ v (opn cl o) o.isSome a b _ j _ yi hj hb, q6_67_2 n ag t _ cl o v a b _ _ _ _ hc (hf _ _)]) n 0 [] none 0 false 0 false (Nat.zero_le _) (Nat.zero_le _) (fun _ => rfl) (fun _ => rfl) rfl (by simp only [Sd.sz, List.drop_zero, List.length_nil, Bool.false_eq_true, if_false]; omega) (by simp only [Sd.sz, List.drop_zero, Bool.false_eq_true, if_false]; omega)
  simpa [opn] using this

theorem s88 (p q : Bool) : Runs C 88 [.bool p, .bool q] [.bool (p || q)] := Runs.of (fun n => e88 n _ _) (Ev.of fun n => by cases p <;> simp [cnd_eq])
theorem all_bools {P : Nat → Bool → Bool → Prop} (h : ∀ p q, Ev fun n => P n p q) : Ev fun n => ∀ p q, P n p q :=
  ((h false false).and ((h false true).and ((h true false).and (h true true)))).mono fun n x p q => by
    cases p <;> cases q
    · exact x.1
    · exact x.2.1
    · exact x.2.2.1
    · exact x.2.2.2
/-- What Union and Minus return. -/
def unionP (a b : List Span) : List Tree := if chkL a = 0 ∧ chkL b = 0 then fin (uni a b) else [.sl 2 [], tI 1]
theorem s66 (a b : List Span) : Runs C 66 [.sl 2 (a.map Span.enc), .sl 2 (b.map Span.enc)] (unionP a b) := by
  refine Runs.of (fun n => e66 n _ _) ?_
  refine ((s46 a).and ((s46 b).and ((all_bools s88).and (Ev.ge 5000)))).mono fun n h => ?_
  obtain ⟨h1, h2, h3, h4⟩ := h
  simp only [h1, h2, vv, reduceCtorEq, Nat.reduceAdd, Nat.reduceEqDiff, unionP]
  by_cases ha : chkL a = 0
  · by_cases hb : chkL b = 0
    · have k1 := sw_67_1 n a b (chkL_len ha) (chkL_len hb) h3 h4
      have k2 := sw_67_2 n a b (chkL_len ha) (chkL_len hb) h3 h4
      simp only [HH, List.map_nil, List.length_nil] at k1 k2
      simp only [ha, hb, bne_self_eq_false, J66_37, vv, reduceCtorEq, Nat.reduceAdd, Nat.reduceEqDiff]
      simp only [Int.natCast_zero] at k1 k2
      rw [k1, k2, both_self]
      rfl
    · simp [ha, hb, cnd_eq, J66_37, vB_mk, treeOf, boolOf]
  · simp [ha, cnd_eq, J66_37, vB_mk, treeOf, boolOf]
end Ab

set_option linter.unusedVariables false
set_option linter.unusedSimpArgs false
namespace Ab
open Go
theorem s69 (l : List Span) : Runs C 69 [.sl 2 (l.map Span.enc)] (fin l) := by
  refine Runs.of (fun n => e69 n _) (Ev.of fun n => ?_)
  unfold fin
  by_cases h : 1000 < l.length
  · simp only [vv, reduceCtorEq, Nat.reduceAdd, Nat.reduceEqDiff, h, (show (1000 : Int) < (l.length : Int) by omega)]
  · simp only [vv, reduceCtorEq, Nat.reduceAdd, Nat.reduceEqDiff, h, (show ¬ (1000 : Int) < (l.length : Int) by omega)]
theorem s67 (a b : List Span) : Runs C 67 [.sl 2 (a.map Span.enc), .sl 2 (b.map Span.enc)] [.bool (decide (¬ (chkL a = 0 ∧ chkL b = 0)))] := by
  refine Runs.of (fun n => e67 n _ _) ?_
  refine ((s78 a).and (s78 b)).mono fun n h => ?_
  simp only [h.1, h.2, vv, reduceCtorEq, Nat.reduceAdd, Nat.reduceEqDiff]
  by_cases ha : chkL a = 0
  · by_cases hb : chkL b = 0 <;> simp [ha, hb, cnd_eq]
  · simp [ha, cnd_eq]
def mg (x y : Span) : Span := ⟨if y.fro < x.fro then y.fro else x.fro, if y.to > x.to then y.to else x.to⟩
theorem take_map_len (l : List Span) : List.take l.length (List.map Span.enc l) = List.map Span.enc l := by rw [List.take_of_length_le (by simp)]
theorem ins_loop2 (l : List Span) (i : Nat) (hi : i ≤ l.length) (hl : l.length ≤ 1000000) (x : Span) (p3 : List AV × Heap) (h1 : sVer p3 0 = i) (h2 : sOff p3 0 = 0) (h3 : sLen p3 0 = i) :
    Ev fun n => loopIter (fun (p9 : List AV × Heap) again => L1000068_2 n (l.map Span.enc) p3 p9 again) n (([.t (tI i)], [.box [.t (tI x.fro), .t (tI x.to)], .row false i 2 ((l.take i).map Span.enc)]) : List AV × Heap) = some [.sl 2 ((l.take i ++ mergeR x (l.drop i)).map Span.enc)] := by
  have key := loop_overQ (R := List Tree) (B := fun n p again => L1000068_2 n (l.map Span.enc) p3 p again) (s := (([.t (tI i)], [.box [.t (tI x.fro), .t (tI x.to)], .row false i 2 ((l.take i).map Span.enc)]) : List AV × Heap))
    (fun (q : List Span) => [Tree.sl 2 ((l.take i ++ q).map Span.enc)]) (l.drop i) (fun j (s : Span) => (([.t (tI ((i + j : Nat) : Int))], [.box [.t (tI s.fro), .t (tI s.to)], .row false i 2 ((l.take i).map Span.enc)]) : List AV × Heap))
    (fun j s y => if y.fro ≤ s.to then .next (mg s y) else .done (s :: l.drop (i + j))) (fun s => [s]) (fun _ _ => True) x rfl trivial (r := mergeR x (l.drop i)) ?_ (fun j s y hy hI => Ev.of fun n again => ?_) (fun _ _ _ _ _ _ _ => trivial) (fun s hI => Ev.of fun n again => ?_)
  · exact key
  · have : ∀ (k : Nat) (m : List Span) (s : Span), m = l.drop (i + k) → runL (fun j s y => if y.fro ≤ s.to then (.next (mg s y) : Rd Span (List Span)) else .done (s :: l.drop (i + j))) (fun s => [s]) k m s = mergeR s m := by
      intro k m
      induction m generalizing k with
      | nil => intro s _; rfl
      | cons y m ih =>
        intro s hm
        have hm' : m = l.drop (i + (k + 1)) := by
          have := congrArg List.tail hm
          simpa [List.tail_drop, Nat.add_assoc] using this
        unfold mergeR
        simp only [runL]
        split
        · rename_i s' hs
          split at hs
          · rename_i hq; cases hs; rw [if_pos hq]; exact ih (k + 1) _ hm'
          · cases hs
        · rename_i r hs
          split at hs
          · cases hs
          · rename_i hq; cases hs; rw [if_neg hq, ← hm]
    exact this 0 _ x rfl
  · have hj := lt_of_some hy
    rw [List.length_drop] at hj
    have hy' : l[i + j]? = some y := by rw [List.getElem?_drop] at hy; exact hy
    have ek : ((l.take i).length) = i := by simp; omega
    have e1 : ((i + j : Nat) : Int) < (l.length : Int) := by omega
    have e2 : ((i + j : Nat) : Int) ≤ (l.length : Int) := by omega
    have e3 : List.take i (List.map Span.enc (List.take i l)) = List.map Span.enc (List.take i l) := by rw [List.take_of_length_le (by simp; omega)]
    have e4 : (i + 1) ≤ 1073741824 := by omega
    have e5 : ¬ (List.length (List.drop (i + j) (List.take l.length (List.map Span.enc l))) = 0 ∧ i + 1 < List.length (List.map Span.enc (List.take i l)) + 1) := by
      simp; omega
    by_cases hq : y.fro ≤ s.to
    · simp only [L1000068_2, J1000068_1, vv, reduceCtorEq, Nat.reduceAdd, Nat.reduceEqDiff, hy', e1, Span.enc, hq, mg, w64_succ (show i + j < 4611686018427387904 by omega), Rd.go_next, Nat.add_assoc]
    · simp only [L1000068_2, J1000068_1, vv, reduceCtorEq, Nat.reduceAdd, Nat.reduceEqDiff, hy', e1, e2, Span.enc, hq, h1, h2, h3, e3, e4, ek, Rd.go_done, Nat.le_refl]
      simp only [cnd_eq]
      have e6 : (List.map Span.enc (List.take i l)).length = i := by simp; omega
      have e7 : List.take (l.length) (List.map Span.enc l) = List.map Span.enc l := take_map_len l
      simp [e6, e7, Span.enc]
      have eA : (List.take i (List.map Span.enc l)).length = i := by simp; omega
      rw [if_neg (by omega), if_pos ⟨by omega, by omega⟩, List.take_of_length_le (l := List.take i (List.map Span.enc l) ++ [[tI s.fro, tI s.to]]) (by simp; omega), List.take_of_length_le (by simp; omega)]
      simp
  · have ej : i + (l.drop i).length = l.length := by rw [List.length_drop]; omega
    simp only [ej, L1000068_2, J1000068_1, vv, reduceCtorEq, Nat.reduceAdd, Nat.reduceEqDiff, Int.lt_irrefl, h1, h2, h3]
    simp only [cnd_eq]
    have ek : ((l.take i).length) = i := by simp; omega
    have e3 : List.take i (List.map Span.enc (List.take i l)) = List.map Span.enc (List.take i l) := by rw [List.take_of_length_le (by simp; omega)]
    have ed : List.drop l.length (List.take l.length (List.map Span.enc l)) = [] := by simp
    rw [e3, ed]
    rw [if_pos ⟨by omega, by omega⟩, if_pos (Int.le_refl _), if_neg (by simp; omega), if_pos ⟨by simp; omega, by simp; omega⟩]
    rw [List.append_nil, List.take_of_length_le (l := List.map Span.enc (List.take i l) ++ [[tI s.fro, tI s.to]]) (by simp; omega), List.take_of_length_le (by simp; omega)]
    simp [Span.enc]
theorem s1000068 (l : List Span) (x : Span) (hl : l.length ≤ 1000000) : Runs C 1000068 [.sl 2 (l.map Span.enc), tI x.fro, tI x.to] [.sl 2 ((insR x l).map Span.enc)] := by
  refine Runs.of (fun n => e1000068 n _ _ _) ?_
  refine loop_overQ (fun (q : List Span) => [Tree.sl 2 (q.map Span.enc)]) l (fun i (_ : Unit) => (([.sref 1 i 0 i, .t (tI i)], [.box [.t (tI x.fro), .t (tI x.to)], .row false i 2 ((l.take i).map Span.enc)]) : List AV × Heap))
    (fun i _ y => if y.to < x.fro then .next () else .done (l.take i ++ mergeR x (l.drop i))) (fun _ => l ++ mergeR x []) (fun _ _ => True) () rfl trivial ?_ (fun i s y hy hI => ?_) (fun _ _ _ _ _ _ _ => trivial) (fun s hI => ?_)
  · have : ∀ (m pre : List Span), l = pre ++ m → runL (fun i (_ : Unit) y => if y.to < x.fro then (.next () : Rd Unit (List Span)) else .done (l.take i ++ mergeR x (l.drop i))) (fun _ => l ++ mergeR x []) pre.length m () = pre ++ insR x m := by
      intro m
      induction m with
      | nil => intro pre h; simp [runL, insR, h]
      | cons y m ih =>
        intro pre h
        unfold insR
        simp only [runL]
        have := ih (pre ++ [y]) (by simp [h])
        simp only [List.length_append, List.length_cons, List.length_nil, Nat.zero_add] at this
        split
        · rename_i s' hs
          split at hs
          · rename_i hq; rw [if_pos hq]; rw [this]; simp
          · cases hs
        · rename_i r hs
          split at hs
          · cases hs
          · rename_i hq
            cases hs
            rw [if_neg hq]
            have e1 : l.take pre.length = pre := by rw [h]; simp
            have e2 : l.drop pre.length = y :: m := by rw [h]; simp
            rw [e1, e2]
    exact this l [] rfl
  · have hi := lt_of_some hy
    have k2 := ins_loop2 l i (by omega) hl x (([.sref 1 i 0 i, .t (tI i)], [.box [.t (tI x.fro), .t (tI x.to)], .row false i 2 ((l.take i).map Span.enc)]) : List AV × Heap) rfl rfl rfl
    refine k2.mono fun n h2 again => ?_
    have e1 : (i : Int) < (l.length : Int) := by omega
    have ek : ((l.take i).length) = i := by simp; omega
    have e3 : List.take i (List.map Span.enc (List.take i l)) = List.map Span.enc (List.take i l) := by rw [List.take_of_length_le (by simp; omega)]
    have e4 : List.take (i + 1) l = List.take i l ++ [y] := by rw [List.take_add_one, hy]; rfl
    by_cases hq : y.to < x.fro
    · simp only [L1000068_4, J1000068_3, vv, reduceCtorEq, Nat.reduceAdd, Nat.reduceEqDiff, hy, e1, Span.enc, hq, w64_succ (show i < 4611686018427387904 by omega), Rd.go_next, ek, e3, (show i + 1 ≤ 1073741824 by omega), Nat.le_refl]
      rw [e4, List.map_append]
      rfl
    · simp only [L1000068_4, J1000068_3, vv, reduceCtorEq, Nat.reduceAdd, Nat.reduceEqDiff, hy, e1, Span.enc, hq, Rd.go_done]
      exact h2
  · have k2 := ins_loop2 l l.length (Nat.le_refl _) hl x (([.sref 1 l.length 0 l.length, .t (tI l.length)], [.box [.t (tI x.fro), .t (tI x.to)], .row false l.length 2 ((l.take l.length).map Span.enc)]) : List AV × Heap) rfl rfl rfl
    refine k2.mono fun n h2 again => ?_
    simp only [L1000068_4, J1000068_3, vv, reduceCtorEq, Nat.reduceAdd, Nat.reduceEqDiff, Int.lt_irrefl]
    simpa using h2
theorem insR_len (x : Span) : ∀ l, (insR x l).length ≤ l.length + 1
  | [] => by simp [insR, mergeR]
  | y :: l => by
    unfold insR
    split
    · simp; exact insR_len x l
    · have : ∀ (m : List Span) (z : Span), (mergeR z m).length ≤ m.length + 1 := by
        intro m
        induction m with
        | nil => intro z; simp [mergeR]
        | cons w m ih =>
          intro z
          unfold mergeR
          split
          · have := ih ⟨if w.fro < z.fro then w.fro else z.fro, if w.to > z.to then w.to else z.to⟩
            simp only [List.length_cons]
            omega
          · simp
      exact this _ _
theorem s43 (a b : List Span) : Runs C 43 [.sl 2 (a.map Span.enc), .sl 2 (b.map Span.enc)] (unionP a b) := by
  refine Runs.of (fun n => e43 n _ _) ?_
  unfold unionP
  by_cases hc : chkL a = 0 ∧ chkL b = 0
  · rw [if_pos hc]
    have la := chkL_len hc.1
    have lb := chkL_len hc.2
    have hu : unionR a b = uni a b := uni_eq ((chkL_iff a).1 hc.1).2.1 ((chkL_iff b).1 hc.2).2.1
    refine Ev.rw (s67 a b) (T' := ?TT) (fun n h => ?g1) ?g2
    case g1 =>
      simp only [h, hc, vv, reduceCtorEq, Nat.reduceAdd, Nat.reduceEqDiff, not_true_eq_false, (show a.length ≤ 1073741824 by omega)]
      rfl
    case g2 =>
      rw [← hu]
      refine loop_overQ (R := List Tree) (Q := List Span) fin b (fun i (m : List Span) => (([.sref 0 i 0 m.length, .t (tI i)], [.row false i 2 (m.map Span.enc)]) : List AV × Heap))
        (fun i m x => .next (insR x m)) (fun m => m) (fun i m => m.length ≤ 1000 + i) a rfl (by omega) ?_ (fun i m x hx hI => ?_) (fun i m x m' hx hI he => ?_) (fun m hI => ?_)
      · have : ∀ (k : Nat) (m a : List Span), runL (fun i m x => (Rd.next (insR x m) : Rd (List Span) (List Span))) (fun m => m) k m a = unionR a m := by
          intro k m
          induction m generalizing k with
          | nil => intro a; rfl
          | cons x m ih => intro a; exact ih _ _
        exact this 0 b a
      · have hi := lt_of_some hx
        refine (s1000068 m x (by omega)).mono fun n h again => ?_
        simp only [L43_1, vv, reduceCtorEq, Nat.reduceAdd, Nat.reduceEqDiff, hx, (show (i : Int) < (b.length : Int) by omega), Span.enc, take_map_len, h, w64_succ (show i < 4611686018427387904 by omega), Rd.go_next]
      · cases he
        have := insR_len x m
        omega
      · refine (s69 m).mono fun n h again => ?_
        simp only [L43_1, vv, reduceCtorEq, Nat.reduceAdd, Nat.reduceEqDiff, Int.lt_irrefl, take_map_len, h, fin]
        split <;> simp only [vv, reduceCtorEq, Nat.reduceAdd, Nat.reduceEqDiff]
  · rw [if_neg hc]
    refine (s67 a b).mono fun n h => ?_
    simp only [h, hc, vv, reduceCtorEq, Nat.reduceAdd, Nat.reduceEqDiff, not_false_eq_true]
end Ab
