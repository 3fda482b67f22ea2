/- Sender: the steps of the sweep over two sets (printed by sweep.py). -/
import Derived.Test.YtdgkjmcggiihgaaSeE
set_option linter.unusedVariables false
set_option linter.unusedSimpArgs false
namespace Ab
open Go
def HH (g v : Nat) (es : List Span) (ins : Bool) (p q : List Span) (pi : Nat) (pb : Bool) (qi : Nat) (qb : Bool) : Heap := [.box [.func (.func g) [] []], .row false v 2 (es.map Span.enc), .box [.sref 1 v 0 es.length], .box [.t (.bool ins)], .box [], .box [.t (.sl 2 (p.map Span.enc)), .t (tI pi), .t (.bool pb)], .box [.t (.sl 2 (q.map Span.enc)), .t (tI qi), .t (.bool qb)]]
def nx (a : List Span) (i : Nat) (xi : Bool) : Option Int := match a[i]? with
  | none => none
  | some x => some (if xi then x.to else x.fro)
def nv (o : Option Int) : Int := o.getD 0
def fin (es : List Span) : List Tree := if 1000 < es.length then [.sl 2 [], tI 4] else [.sl 2 (es.map Span.enc), tI 0]
def pi_ (a : List Span) (i : Nat) (xi : Bool) (t : Int) : Nat := if nx a i xi = some t ∧ xi = true then i + 1 else i
def pb (a : List Span) (i : Nat) (xi : Bool) (t : Int) : Bool := if nx a i xi = some t then !xi else xi
def opn (cl : List Span) (o : Option Int) : List Span := match o with
  | none => cl
  | some s => cl ++ [⟨s, 0⟩]
def ncl (cl : List Span) (o : Option Int) (t : Int) (now : Bool) : List Span := match o, now with
  | some s, false => cl ++ [⟨s, t⟩]
  | _, _ => cl
def nop (o : Option Int) (t : Int) (now : Bool) : Option Int := if now then some (o.getD t) else none
theorem set_last {α : Type} (l : List α) (x y : α) (k : Nat) (h : k = l.length) : (l ++ [x]).set k y = l ++ [y] := by
  subst h
  induction l with
  | nil => rfl
  | cons z l ih => simp [ih]
def nver (v : Nat) (o : Option Int) (now : Bool) : Nat := match o, now with
  | none, true => v + 1
  | _, _ => v
theorem q1_67_1 (n : Nat) (ag : (List AV × Heap) → Option (List Tree)) (v : Nat) (es : List Span) (ins : Bool) (a b : List Span) (i j : Nat) (xi yi : Bool) (hi : i ≤ a.length) :
    L67_18 n (([], (HH 94 v es ins a b i xi j yi)) : List AV × Heap) ag = J67_17 n ag (([.t (tI (nv (nx a i xi))), .t (.bool (nx a i xi).isSome)], (HH 94 v es ins a b i xi j yi)) : List AV × Heap) := by
  unfold nx nv
  by_cases h : i = a.length
  · subst h
    have hx : a[a.length]? = none := List.getElem?_eq_none (Nat.le_refl _)
    simp only [L67_18, HH, vv, reduceCtorEq, Nat.reduceAdd, Nat.reduceEqDiff, hx, beq_self_eq_true, Option.isSome_none, Option.getD_none]
  · obtain ⟨x, hx⟩ : ∃ x, a[i]? = some x := ⟨a[i]'(by omega), List.getElem?_eq_getElem (by omega)⟩
    have h' : ¬ ((i : Int) = (a.length : Int)) := by omega
    cases xi <;> simp only [L67_18, HH, vv, reduceCtorEq, Nat.reduceAdd, Nat.reduceEqDiff, hx, h', beq_iff_eq, Span.enc, Option.isSome_some, Option.getD_some]
theorem q2_67_1 (n : Nat) (ag : (List AV × Heap) → Option (List Tree)) (m : Int) (fx : Bool) (v : Nat) (es : List Span) (ins : Bool) (a b : List Span) (i j : Nat) (xi yi : Bool) (hj : j ≤ b.length) :
    J67_17 n ag (([.t (tI m), .t (.bool fx)], (HH 94 v es ins a b i xi j yi)) : List AV × Heap) = J67_16 n ag (([.t (tI m), .t (.bool fx)], (HH 94 v es ins a b i xi j yi)) : List AV × Heap) (([.t (tI (nv (nx b j yi))), .t (.bool (nx b j yi).isSome)], (HH 94 v es ins a b i xi j yi)) : List AV × Heap) := by
  unfold nx nv
  by_cases h : j = b.length
  · subst h
    have hx : b[b.length]? = none := List.getElem?_eq_none (Nat.le_refl _)
    simp only [J67_17, HH, vv, reduceCtorEq, Nat.reduceAdd, Nat.reduceEqDiff, hx, beq_self_eq_true, Option.isSome_none, Option.getD_none]
  · obtain ⟨x, hx⟩ : ∃ x, b[j]? = some x := ⟨b[j]'(by omega), List.getElem?_eq_getElem (by omega)⟩
    have h' : ¬ ((j : Int) = (b.length : Int)) := by omega
    cases yi <;> simp only [J67_17, HH, vv, reduceCtorEq, Nat.reduceAdd, Nat.reduceEqDiff, hx, h', beq_iff_eq, Span.enc, Option.isSome_some, Option.getD_some]
theorem q3_67_1 (n : Nat) (ag : (List AV × Heap) → Option (List Tree)) (ox oy : Option Int) (v : Nat) (es : List Span) (ins : Bool) (a b : List Span) (i j : Nat) (xi yi : Bool) :
    J67_16 n ag (([.t (tI (nv ox)), .t (.bool ox.isSome)], (HH 94 v es ins a b i xi j yi)) : List AV × Heap) (([.t (tI (nv oy)), .t (.bool oy.isSome)], (HH 94 v es ins a b i xi j yi)) : List AV × Heap) = match tmin ox oy with
      | none => some (fin es)
      | some t => J67_13 n ag (([.t (tI t)], (HH 94 v es ins a b i xi j yi)) : List AV × Heap) := by
  have hl : ∀ l : List Span, List.take l.length (List.map Span.enc l) = List.map Span.enc l := fun l => by rw [List.take_of_length_le (by simp)]
  cases ox with
  | none => cases oy with
    | none =>
      simp only [J67_16, J67_15, HH, vv, reduceCtorEq, Nat.reduceAdd, Nat.reduceEqDiff, tmin, nv, Option.isSome_none, Option.getD_none, fin]
      by_cases h : 1000 < es.length
      · simp only [h, (show (1000 : Int) < (es.length : Int) by omega), vv, reduceCtorEq, Nat.reduceAdd, Nat.reduceEqDiff]
      · simp only [h, (show ¬ (1000 : Int) < (es.length : Int) by omega), vv, reduceCtorEq, Nat.reduceAdd, Nat.reduceEqDiff, hl]
    | some m => simp only [J67_16, J67_15, J67_14, HH, vv, reduceCtorEq, Nat.reduceAdd, Nat.reduceEqDiff, tmin, nv, Option.isSome_none, Option.isSome_some, Option.getD_none, Option.getD_some]
  | some k => cases oy with
    | none => simp only [J67_16, J67_15, J67_14, HH, vv, reduceCtorEq, Nat.reduceAdd, Nat.reduceEqDiff, tmin, nv, Option.isSome_none, Option.isSome_some, Option.getD_none, Option.getD_some]
    | some m =>
      simp only [J67_16, J67_15, J67_14, HH, vv, reduceCtorEq, Nat.reduceAdd, Nat.reduceEqDiff, tmin, nv, Option.isSome_none, Option.isSome_some, Option.getD_none, Option.getD_some]
      by_cases h : m < k <;> simp only [h, vv, reduceCtorEq, Nat.reduceAdd, Nat.reduceEqDiff]
theorem q4_67_1 (n : Nat) (ag : (List AV × Heap) → Option (List Tree)) (t : Int) (v : Nat) (es : List Span) (ins : Bool) (a b : List Span) (i j : Nat) (xi yi : Bool) (hi : i ≤ a.length) (hl : a.length ≤ 1000) :
    J67_13 n ag (([.t (tI t)], (HH 94 v es ins a b i xi j yi)) : List AV × Heap) = J67_12 n ag (([.t (tI t)], (HH 94 v es ins a b i xi j yi)) : List AV × Heap) (([], (HH 94 v es ins a b (pi_ a i xi t) (pb a i xi t) j yi)) : List AV × Heap) := by
  unfold pi_ pb nx
  by_cases h : i = a.length
  · subst h
    have hx : a[a.length]? = none := List.getElem?_eq_none (Nat.le_refl _)
    simp only [J67_13, J67_3, J67_2, J67_1, HH, vv, reduceCtorEq, Nat.reduceAdd, Nat.reduceEqDiff, hx, beq_self_eq_true]
  · obtain ⟨x, hx⟩ : ∃ x, a[i]? = some x := ⟨a[i]'(by omega), List.getElem?_eq_getElem (by omega)⟩
    have h' : ¬ ((i : Int) = (a.length : Int)) := by omega
    cases xi
    · by_cases hq : x.fro = t <;> simp only [J67_13, J67_3, J67_2, J67_1, HH, vv, reduceCtorEq, Nat.reduceAdd, Nat.reduceEqDiff, hx, h', hq, beq_iff_eq, Span.enc, bne_iff_ne, ne_eq, not_true_eq_false, not_false_eq_true, Option.some.injEq]
    · by_cases hq : x.to = t <;> simp only [J67_13, J67_3, J67_2, J67_1, HH, vv, reduceCtorEq, Nat.reduceAdd, Nat.reduceEqDiff, hx, h', hq, beq_iff_eq, Span.enc, bne_iff_ne, ne_eq, not_true_eq_false, not_false_eq_true, Option.some.injEq, w64_succ (show i < 4611686018427387904 by omega), Int.natCast_add, nc1]
theorem q5_67_1 (n : Nat) (ag : (List AV × Heap) → Option (List Tree)) (t : Int) (Hp : Heap) (v : Nat) (es : List Span) (ins : Bool) (a b : List Span) (i j : Nat) (xi yi : Bool) (hj : j ≤ b.length) (hl : b.length ≤ 1000) :
    J67_12 n ag (([.t (tI t)], Hp) : List AV × Heap) (([], (HH 94 v es ins a b i xi j yi)) : List AV × Heap) = J67_11 n ag (([.t (tI t)], Hp) : List AV × Heap) (([], (HH 94 v es ins a b i xi (pi_ b j yi t) (pb b j yi t))) : List AV × Heap) := by
  unfold pi_ pb nx
  by_cases h : j = b.length
  · subst h
    have hx : b[b.length]? = none := List.getElem?_eq_none (Nat.le_refl _)
    simp only [J67_12, J67_6, J67_5, J67_4, HH, vv, reduceCtorEq, Nat.reduceAdd, Nat.reduceEqDiff, hx, beq_self_eq_true]
  · obtain ⟨x, hx⟩ : ∃ x, b[j]? = some x := ⟨b[j]'(by omega), List.getElem?_eq_getElem (by omega)⟩
    have h' : ¬ ((j : Int) = (b.length : Int)) := by omega
    cases yi
    · by_cases hq : x.fro = t <;> simp only [J67_12, J67_6, J67_5, J67_4, HH, vv, reduceCtorEq, Nat.reduceAdd, Nat.reduceEqDiff, hx, h', hq, beq_iff_eq, Span.enc, bne_iff_ne, ne_eq, not_true_eq_false, not_false_eq_true, Option.some.injEq]
    · by_cases hq : x.to = t <;> simp only [J67_12, J67_6, J67_5, J67_4, HH, vv, reduceCtorEq, Nat.reduceAdd, Nat.reduceEqDiff, hx, h', hq, beq_iff_eq, Span.enc, bne_iff_ne, ne_eq, not_true_eq_false, not_false_eq_true, Option.some.injEq, w64_succ (show j < 4611686018427387904 by omega), Int.natCast_add, nc1]
theorem q6_67_1 (n : Nat) (ag : (List AV × Heap) → Option (List Tree)) (t : Int) (Hp : Heap) (cl : List Span) (o : Option Int) (v : Nat) (a b : List Span) (i j : Nat) (xi yi : Bool) (hl : cl.length ≤ 1000000)
    (hf : apure C n 94 [Tree.bool xi, Tree.bool yi] = some [Tree.bool (xi || yi)]) :
    J67_11 n ag (([.t (tI t)], Hp) : List AV × Heap) (([], (HH 94 v (opn cl o) o.isSome a b i xi j yi)) : List AV × Heap) =
      ag (([], (HH 94 (nver v o (xi || yi)) (opn (ncl cl o t (xi || yi)) (nop o t (xi || yi))) (nop o t (xi || yi)).isSome a b i xi j yi)) : List AV × Heap) := by
  have hm : ∀ l : List Span, List.take l.length (List.map Span.enc l) = List.map Span.enc l := fun l => by rw [List.take_of_length_le (by simp)]
  generalize hnow : (xi || yi) = now at *
  cases o with
  | none =>
    cases now with
    | true => simp only [J67_11, J67_10, J67_9, J67_8, J67_7, HH, vv, reduceCtorEq, Nat.reduceAdd, Nat.reduceEqDiff, hf, opn, ncl, nop, nver, Option.isSome_none, Option.isSome_some, Bool.not_false, List.append_nil, hm, List.map_append, List.map_cons, List.map_nil, Span.enc, (show cl.length + 1 ≤ 1073741824 by omega), Option.getD_none, List.length_append, Nat.le_refl]
    | false => simp only [J67_11, J67_10, J67_9, J67_8, J67_7, HH, vv, reduceCtorEq, Nat.reduceAdd, Nat.reduceEqDiff, hf, opn, ncl, nop, nver, Option.isSome_none, Option.isSome_some, Bool.not_false, List.append_nil]
  | some s =>
    cases now with
    | true => simp only [J67_11, J67_10, J67_9, J67_8, J67_7, HH, vv, reduceCtorEq, Nat.reduceAdd, Nat.reduceEqDiff, hf, opn, ncl, nop, nver, Option.isSome_none, Option.isSome_some, Bool.not_true, Option.getD_some]
    | false =>
      have e1 : w64 (((cl.length + 1 : Nat) : Int) - 1) = (cl.length : Int) := by rw [w64_id (by omega) (by omega)]; omega
      have e2 : (List.map Span.enc cl ++ [[tI s, tI 0]])[cl.length]? = some [tI s, tI 0] := by rw [List.getElem?_append_right (by simp)]; simp
      have e3 : (List.map Span.enc cl ++ [[tI s, tI 0]]).set cl.length [tI s, tI t] = List.map Span.enc cl ++ [[tI s, tI t]] := set_last _ _ _ cl.length (by simp)
      simp only [J67_11, J67_10, J67_9, J67_8, J67_7, HH, vv, reduceCtorEq, Nat.reduceAdd, Nat.reduceEqDiff, hf, opn, ncl, nop, nver, Option.isSome_none, Option.isSome_some, Bool.not_true, List.append_nil, List.map_append, List.map_cons, List.map_nil, Span.enc, List.length_append, e1, e2, e3, List.take, List.drop, List.cons_append, List.nil_append, (show (cl.length : Int) < ((cl.length + 1 : Nat) : Int) by omega), Nat.le_refl]

theorem q1_67_2 (n : Nat) (ag : (List AV × Heap) → Option (List Tree)) (v : Nat) (es : List Span) (ins : Bool) (a b : List Span) (i j : Nat) (xi yi : Bool) (hi : i ≤ a.length) :
    L67_36 n (([], (HH 94 v es ins b a j yi i xi)) : List AV × Heap) ag = J67_35 n ag (([.t (tI (nv (nx a i xi))), .t (.bool (nx a i xi).isSome)], (HH 94 v es ins b a j yi i xi)) : List AV × Heap) := by
  unfold nx nv
  by_cases h : i = a.length
  · subst h
    have hx : a[a.length]? = none := List.getElem?_eq_none (Nat.le_refl _)
    simp only [L67_36, HH, vv, reduceCtorEq, Nat.reduceAdd, Nat.reduceEqDiff, hx, beq_self_eq_true, Option.isSome_none, Option.getD_none]
  · obtain ⟨x, hx⟩ : ∃ x, a[i]? = some x := ⟨a[i]'(by omega), List.getElem?_eq_getElem (by omega)⟩
    have h' : ¬ ((i : Int) = (a.length : Int)) := by omega
    cases xi <;> simp only [L67_36, HH, vv, reduceCtorEq, Nat.reduceAdd, Nat.reduceEqDiff, hx, h', beq_iff_eq, Span.enc, Option.isSome_some, Option.getD_some]
theorem q2_67_2 (n : Nat) (ag : (List AV × Heap) → Option (List Tree)) (m : Int) (fx : Bool) (v : Nat) (es : List Span) (ins : Bool) (a b : List Span) (i j : Nat) (xi yi : Bool) (hj : j ≤ b.length) :
    J67_35 n ag (([.t (tI m), .t (.bool fx)], (HH 94 v es ins b a j yi i xi)) : List AV × Heap) = J67_34 n ag (([.t (tI m), .t (.bool fx)], (HH 94 v es ins b a j yi i xi)) : List AV × Heap) (([.t (tI (nv (nx b j yi))), .t (.bool (nx b j yi).isSome)], (HH 94 v es ins b a j yi i xi)) : List AV × Heap) := by
  unfold nx nv
  by_cases h : j = b.length
  · subst h
    have hx : b[b.length]? = none := List.getElem?_eq_none (Nat.le_refl _)
    simp only [J67_35, HH, vv, reduceCtorEq, Nat.reduceAdd, Nat.reduceEqDiff, hx, beq_self_eq_true, Option.isSome_none, Option.getD_none]
  · obtain ⟨x, hx⟩ : ∃ x, b[j]? = some x := ⟨b[j]'(by omega), List.getElem?_eq_getElem (by omega)⟩
    have h' : ¬ ((j : Int) = (b.length : Int)) := by omega
    cases yi <;> simp only [J67_35, HH, vv, reduceCtorEq, Nat.reduceAdd, Nat.reduceEqDiff, hx, h', beq_iff_eq, Span.enc, Option.isSome_some, Option.getD_some]
theorem q3_67_2 (n : Nat) (ag : (List AV × Heap) → Option (List Tree)) (ox oy : Option Int) (v : Nat) (es : List Span) (ins : Bool) (a b : List Span) (i j : Nat) (xi yi : Bool) :
    J67_34 n ag (([.t (tI (nv ox)), .t (.bool ox.isSome)], (HH 94 v es ins b a j yi i xi)) : List AV × Heap) (([.t (tI (nv oy)), .t (.bool oy.isSome)], (HH 94 v es ins b a j yi i xi)) : List AV × Heap) = match tmin ox oy with
      | none => some (fin es)
      | some t => J67_31 n ag (([.t (tI t)], (HH 94 v es ins b a j yi i xi)) : List AV × Heap) := by
  have hl : ∀ l : List Span, List.take l.length (List.map Span.enc l) = List.map Span.enc l := fun l => by rw [List.take_of_length_le (by simp)]
  cases ox with
  | none => cases oy with
    | none =>
      simp only [J67_34, J67_33, HH, vv, reduceCtorEq, Nat.reduceAdd, Nat.reduceEqDiff, tmin, nv, Option.isSome_none, Option.getD_none, fin]
      by_cases h : 1000 < es.length
      · simp only [h, (show (1000 : Int) < (es.length : Int) by omega), vv, reduceCtorEq, Nat.reduceAdd, Nat.reduceEqDiff]
      · simp only [h, (show ¬ (1000 : Int) < (es.length : Int) by omega), vv, reduceCtorEq, Nat.reduceAdd, Nat.reduceEqDiff, hl]
    | some m => simp only [J67_34, J67_33, J67_32, HH, vv, reduceCtorEq, Nat.reduceAdd, Nat.reduceEqDiff, tmin, nv, Option.isSome_none, Option.isSome_some, Option.getD_none, Option.getD_some]
  | some k => cases oy with
    | none => simp only [J67_34, J67_33, J67_32, HH, vv, reduceCtorEq, Nat.reduceAdd, Nat.reduceEqDiff, tmin, nv, Option.isSome_none, Option.isSome_some, Option.getD_none, Option.getD_some]
    | some m =>
      simp only [J67_34, J67_33, J67_32, HH, vv, reduceCtorEq, Nat.reduceAdd, Nat.reduceEqDiff, tmin, nv, Option.isSome_none, Option.isSome_some, Option.getD_none, Option.getD_some]
      by_cases h : m < k <;> simp only [h, vv, reduceCtorEq, Nat.reduceAdd, Nat.reduceEqDiff]
theorem q4_67_2 (n : Nat) (ag : (List AV × Heap) → Option (List Tree)) (t : Int) (v : Nat) (es : List Span) (ins : Bool) (a b : List Span) (i j : Nat) (xi yi : Bool) (hi : i ≤ a.length) (hl : a.length ≤ 1000) :
    J67_31 n ag (([.t (tI t)], (HH 94 v es ins b a j yi i xi)) : List AV × Heap) = J67_30 n ag (([.t (tI t)], (HH 94 v es ins b a j yi i xi)) : List AV × Heap) (([], (HH 94 v es ins b a j yi (pi_ a i xi t) (pb a i xi t))) : List AV × Heap) := by
  unfold pi_ pb nx
  by_cases h : i = a.length
  · subst h
    have hx : a[a.length]? = none := List.getElem?_eq_none (Nat.le_refl _)
    simp only [J67_31, J67_21, J67_20, J67_19, HH, vv, reduceCtorEq, Nat.reduceAdd, Nat.reduceEqDiff, hx, beq_self_eq_true]
  · obtain ⟨x, hx⟩ : ∃ x, a[i]? = some x := ⟨a[i]'(by omega), List.getElem?_eq_getElem (by omega)⟩
    have h' : ¬ ((i : Int) = (a.length : Int)) := by omega
    cases xi
    · by_cases hq : x.fro = t <;> simp only [J67_31, J67_21, J67_20, J67_19, HH, vv, reduceCtorEq, Nat.reduceAdd, Nat.reduceEqDiff, hx, h', hq, beq_iff_eq, Span.enc, bne_iff_ne, ne_eq, not_true_eq_false, not_false_eq_true, Option.some.injEq]
    · by_cases hq : x.to = t <;> simp only [J67_31, J67_21, J67_20, J67_19, HH, vv, reduceCtorEq, Nat.reduceAdd, Nat.reduceEqDiff, hx, h', hq, beq_iff_eq, Span.enc, bne_iff_ne, ne_eq, not_true_eq_false, not_false_eq_true, Option.some.injEq, w64_succ (show i < 4611686018427387904 by omega), Int.natCast_add, nc1]
theorem q5_67_2 (n : Nat) (ag : (List AV × Heap) → Option (List Tree)) (t : Int) (Hp : Heap) (v : Nat) (es : List Span) (ins : Bool) (a b : List Span) (i j : Nat) (xi yi : Bool) (hj : j ≤ b.length) (hl : b.length ≤ 1000) :
    J67_30 n ag (([.t (tI t)], Hp) : List AV × Heap) (([], (HH 94 v es ins b a j yi i xi)) : List AV × Heap) = J67_29 n ag (([.t (tI t)], Hp) : List AV × Heap) (([], (HH 94 v es ins b a (pi_ b j yi t) (pb b j yi t) i xi)) : List AV × Heap) := by
  unfold pi_ pb nx
  by_cases h : j = b.length
  · subst h
    have hx : b[b.length]? = none := List.getElem?_eq_none (Nat.le_refl _)
    simp only [J67_30, J67_24, J67_23, J67_22, HH, vv, reduceCtorEq, Nat.reduceAdd, Nat.reduceEqDiff, hx, beq_self_eq_true]
  · obtain ⟨x, hx⟩ : ∃ x, b[j]? = some x := ⟨b[j]'(by omega), List.getElem?_eq_getElem (by omega)⟩
    have h' : ¬ ((j : Int) = (b.length : Int)) := by omega
    cases yi
    · by_cases hq : x.fro = t <;> simp only [J67_30, J67_24, J67_23, J67_22, HH, vv, reduceCtorEq, Nat.reduceAdd, Nat.reduceEqDiff, hx, h', hq, beq_iff_eq, Span.enc, bne_iff_ne, ne_eq, not_true_eq_false, not_false_eq_true, Option.some.injEq]
    · by_cases hq : x.to = t <;> simp only [J67_30, J67_24, J67_23, J67_22, HH, vv, reduceCtorEq, Nat.reduceAdd, Nat.reduceEqDiff, hx, h', hq, beq_iff_eq, Span.enc, bne_iff_ne, ne_eq, not_true_eq_false, not_false_eq_true, Option.some.injEq, w64_succ (show j < 4611686018427387904 by omega), Int.natCast_add, nc1]
theorem q6_67_2 (n : Nat) (ag : (List AV × Heap) → Option (List Tree)) (t : Int) (Hp : Heap) (cl : List Span) (o : Option Int) (v : Nat) (a b : List Span) (i j : Nat) (xi yi : Bool) (hl : cl.length ≤ 1000000)
    (hf : apure C n 94 [Tree.bool xi, Tree.bool yi] = some [Tree.bool (xi || yi)]) :
    J67_29 n ag (([.t (tI t)], Hp) : List AV × Heap) (([], (HH 94 v (opn cl o) o.isSome b a j yi i xi)) : List AV × Heap) =
      ag (([], (HH 94 (nver v o (xi || yi)) (opn (ncl cl o t (xi || yi)) (nop o t (xi || yi))) (nop o t (xi || yi)).isSome b a j yi i xi)) : List AV × Heap) := by
  have hm : ∀ l : List Span, List.take l.length (List.map Span.enc l) = List.map Span.enc l := fun l => by rw [List.take_of_length_le (by simp)]
  generalize hnow : (xi || yi) = now at *
  cases o with
  | none =>
    cases now with
    | true => simp only [J67_29, J67_28, J67_27, J67_26, J67_25, HH, vv, reduceCtorEq, Nat.reduceAdd, Nat.reduceEqDiff, hf, opn, ncl, nop, nver, Option.isSome_none, Option.isSome_some, Bool.not_false, List.append_nil, hm, List.map_append, List.map_cons, List.map_nil, Span.enc, (show cl.length + 1 ≤ 1073741824 by omega), Option.getD_none, List.length_append, Nat.le_refl]
    | false => simp only [J67_29, J67_28, J67_27, J67_26, J67_25, HH, vv, reduceCtorEq, Nat.reduceAdd, Nat.reduceEqDiff, hf, opn, ncl, nop, nver, Option.isSome_none, Option.isSome_some, Bool.not_false, List.append_nil]
  | some s =>
    cases now with
    | true => simp only [J67_29, J67_28, J67_27, J67_26, J67_25, HH, vv, reduceCtorEq, Nat.reduceAdd, Nat.reduceEqDiff, hf, opn, ncl, nop, nver, Option.isSome_none, Option.isSome_some, Bool.not_true, Option.getD_some]
    | false =>
      have e1 : w64 (((cl.length + 1 : Nat) : Int) - 1) = (cl.length : Int) := by rw [w64_id (by omega) (by omega)]; omega
      have e2 : (List.map Span.enc cl ++ [[tI s, tI 0]])[cl.length]? = some [tI s, tI 0] := by rw [List.getElem?_append_right (by simp)]; simp
      have e3 : (List.map Span.enc cl ++ [[tI s, tI 0]]).set cl.length [tI s, tI t] = List.map Span.enc cl ++ [[tI s, tI t]] := set_last _ _ _ cl.length (by simp)
      simp only [J67_29, J67_28, J67_27, J67_26, J67_25, HH, vv, reduceCtorEq, Nat.reduceAdd, Nat.reduceEqDiff, hf, opn, ncl, nop, nver, Option.isSome_none, Option.isSome_some, Bool.not_true, List.append_nil, List.map_append, List.map_cons, List.map_nil, Span.enc, List.length_append, e1, e2, e3, List.take, List.drop, List.cons_append, List.nil_append, (show (cl.length : Int) < ((cl.length + 1 : Nat) : Int) by omega), Nat.le_refl]

theorem q1_32_1 (n : Nat) (ag : (List AV × Heap) → Option (List Tree)) (v : Nat) (es : List Span) (ins : Bool) (a b : List Span) (i j : Nat) (xi yi : Bool) (hi : i ≤ a.length) :
    L32_18 n (([], (HH 57 v es ins a b i xi j yi)) : List AV × Heap) ag = J32_17 n ag (([.t (tI (nv (nx a i xi))), .t (.bool (nx a i xi).isSome)], (HH 57 v es ins a b i xi j yi)) : List AV × Heap) := by
  unfold nx nv
  by_cases h : i = a.length
  · subst h
    have hx : a[a.length]? = none := List.getElem?_eq_none (Nat.le_refl _)
    simp only [L32_18, HH, vv, reduceCtorEq, Nat.reduceAdd, Nat.reduceEqDiff, hx, beq_self_eq_true, Option.isSome_none, Option.getD_none]
  · obtain ⟨x, hx⟩ : ∃ x, a[i]? = some x := ⟨a[i]'(by omega), List.getElem?_eq_getElem (by omega)⟩
    have h' : ¬ ((i : Int) = (a.length : Int)) := by omega
    cases xi <;> simp only [L32_18, HH, vv, reduceCtorEq, Nat.reduceAdd, Nat.reduceEqDiff, hx, h', beq_iff_eq, Span.enc, Option.isSome_some, Option.getD_some]
theorem q2_32_1 (n : Nat) (ag : (List AV × Heap) → Option (List Tree)) (m : Int) (fx : Bool) (v : Nat) (es : List Span) (ins : Bool) (a b : List Span) (i j : Nat) (xi yi : Bool) (hj : j ≤ b.length) :
    J32_17 n ag (([.t (tI m), .t (.bool fx)], (HH 57 v es ins a b i xi j yi)) : List AV × Heap) = J32_16 n ag (([.t (tI m), .t (.bool fx)], (HH 57 v es ins a b i xi j yi)) : List AV × Heap) (([.t (tI (nv (nx b j yi))), .t (.bool (nx b j yi).isSome)], (HH 57 v es ins a b i xi j yi)) : List AV × Heap) := by
  unfold nx nv
  by_cases h : j = b.length
  · subst h
    have hx : b[b.length]? = none := List.getElem?_eq_none (Nat.le_refl _)
    simp only [J32_17, HH, vv, reduceCtorEq, Nat.reduceAdd, Nat.reduceEqDiff, hx, beq_self_eq_true, Option.isSome_none, Option.getD_none]
  · obtain ⟨x, hx⟩ : ∃ x, b[j]? = some x := ⟨b[j]'(by omega), List.getElem?_eq_getElem (by omega)⟩
    have h' : ¬ ((j : Int) = (b.length : Int)) := by omega
    cases yi <;> simp only [J32_17, HH, vv, reduceCtorEq, Nat.reduceAdd, Nat.reduceEqDiff, hx, h', beq_iff_eq, Span.enc, Option.isSome_some, Option.getD_some]
theorem q3_32_1 (n : Nat) (ag : (List AV × Heap) → Option (List Tree)) (ox oy : Option Int) (v : Nat) (es : List Span) (ins : Bool) (a b : List Span) (i j : Nat) (xi yi : Bool) :
    J32_16 n ag (([.t (tI (nv ox)), .t (.bool ox.isSome)], (HH 57 v es ins a b i xi j yi)) : List AV × Heap) (([.t (tI (nv oy)), .t (.bool oy.isSome)], (HH 57 v es ins a b i xi j yi)) : List AV × Heap) = match tmin ox oy with
      | none => some (fin es)
      | some t => J32_13 n ag (([.t (tI t)], (HH 57 v es ins a b i xi j yi)) : List AV × Heap) := by
  have hl : ∀ l : List Span, List.take l.length (List.map Span.enc l) = List.map Span.enc l := fun l => by rw [List.take_of_length_le (by simp)]
  cases ox with
  | none => cases oy with
    | none =>
      simp only [J32_16, J32_15, HH, vv, reduceCtorEq, Nat.reduceAdd, Nat.reduceEqDiff, tmin, nv, Option.isSome_none, Option.getD_none, fin]
      by_cases h : 1000 < es.length
      · simp only [h, (show (1000 : Int) < (es.length : Int) by omega), vv, reduceCtorEq, Nat.reduceAdd, Nat.reduceEqDiff]
      · simp only [h, (show ¬ (1000 : Int) < (es.length : Int) by omega), vv, reduceCtorEq, Nat.reduceAdd, Nat.reduceEqDiff, hl]
    | some m => simp only [J32_16, J32_15, J32_14, HH, vv, reduceCtorEq, Nat.reduceAdd, Nat.reduceEqDiff, tmin, nv, Option.isSome_none, Option.isSome_some, Option.getD_none, Option.getD_some]
  | some k => cases oy with
    | none => simp only [J32_16, J32_15, J32_14, HH, vv, reduceCtorEq, Nat.reduceAdd, Nat.reduceEqDiff, tmin, nv, Option.isSome_none, Option.isSome_some, Option.getD_none, Option.getD_some]
    | some m =>
      simp only [J32_16, J32_15, J32_14, HH, vv, reduceCtorEq, Nat.reduceAdd, Nat.reduceEqDiff, tmin, nv, Option.isSome_none, Option.isSome_some, Option.getD_none, Option.getD_some]
      by_cases h : m < k <;> simp only [h, vv, reduceCtorEq, Nat.reduceAdd, Nat.reduceEqDiff]
theorem q4_32_1 (n : Nat) (ag : (List AV × Heap) → Option (List Tree)) (t : Int) (v : Nat) (es : List Span) (ins : Bool) (a b : List Span) (i j : Nat) (xi yi : Bool) (hi : i ≤ a.length) (hl : a.length ≤ 1000) :
    J32_13 n ag (([.t (tI t)], (HH 57 v es ins a b i xi j yi)) : List AV × Heap) = J32_12 n ag (([.t (tI t)], (HH 57 v es ins a b i xi j yi)) : List AV × Heap) (([], (HH 57 v es ins a b (pi_ a i xi t) (pb a i xi t) j yi)) : List AV × Heap) := by
  unfold pi_ pb nx
  by_cases h : i = a.length
  · subst h
    have hx : a[a.length]? = none := List.getElem?_eq_none (Nat.le_refl _)
    simp only [J32_13, J32_3, J32_2, J32_1, HH, vv, reduceCtorEq, Nat.reduceAdd, Nat.reduceEqDiff, hx, beq_self_eq_true]
  · obtain ⟨x, hx⟩ : ∃ x, a[i]? = some x := ⟨a[i]'(by omega), List.getElem?_eq_getElem (by omega)⟩
    have h' : ¬ ((i : Int) = (a.length : Int)) := by omega
    cases xi
    · by_cases hq : x.fro = t <;> simp only [J32_13, J32_3, J32_2, J32_1, HH, vv, reduceCtorEq, Nat.reduceAdd, Nat.reduceEqDiff, hx, h', hq, beq_iff_eq, Span.enc, bne_iff_ne, ne_eq, not_true_eq_false, not_false_eq_true, Option.some.injEq]
    · by_cases hq : x.to = t <;> simp only [J32_13, J32_3, J32_2, J32_1, HH, vv, reduceCtorEq, Nat.reduceAdd, Nat.reduceEqDiff, hx, h', hq, beq_iff_eq, Span.enc, bne_iff_ne, ne_eq, not_true_eq_false, not_false_eq_true, Option.some.injEq, w64_succ (show i < 4611686018427387904 by omega), Int.natCast_add, nc1]
theorem q5_32_1 (n : Nat) (ag : (List AV × Heap) → Option (List Tree)) (t : Int) (Hp : Heap) (v : Nat) (es : List Span) (ins : Bool) (a b : List Span) (i j : Nat) (xi yi : Bool) (hj : j ≤ b.length) (hl : b.length ≤ 1000) :
    J32_12 n ag (([.t (tI t)], Hp) : List AV × Heap) (([], (HH 57 v es ins a b i xi j yi)) : List AV × Heap) = J32_11 n ag (([.t (tI t)], Hp) : List AV × Heap) (([], (HH 57 v es ins a b i xi (pi_ b j yi t) (pb b j yi t))) : List AV × Heap) := by
  unfold pi_ pb nx
  by_cases h : j = b.length
  · subst h
    have hx : b[b.length]? = none := List.getElem?_eq_none (Nat.le_refl _)
    simp only [J32_12, J32_6, J32_5, J32_4, HH, vv, reduceCtorEq, Nat.reduceAdd, Nat.reduceEqDiff, hx, beq_self_eq_true]
  · obtain ⟨x, hx⟩ : ∃ x, b[j]? = some x := ⟨b[j]'(by omega), List.getElem?_eq_getElem (by omega)⟩
    have h' : ¬ ((j : Int) = (b.length : Int)) := by omega
    cases yi
    · by_cases hq : x.fro = t <;> simp only [J32_12, J32_6, J32_5, J32_4, HH, vv, reduceCtorEq, Nat.reduceAdd, Nat.reduceEqDiff, hx, h', hq, beq_iff_eq, Span.enc, bne_iff_ne, ne_eq, not_true_eq_false, not_false_eq_true, Option.some.injEq]
    · by_cases hq : x.to = t <;> simp only [J32_12, J32_6, J32_5, J32_4, HH, vv, reduceCtorEq, Nat.reduceAdd, Nat.reduceEqDiff, hx, h', hq, beq_iff_eq, Span.enc, bne_iff_ne, ne_eq, not_true_eq_false, not_false_eq_true, Option.some.injEq, w64_succ (show j < 4611686018427387904 by omega), Int.natCast_add, nc1]
theorem q6_32_1 (n : Nat) (ag : (List AV × Heap) → Option (List Tree)) (t : Int) (Hp : Heap) (cl : List Span) (o : Option Int) (v : Nat) (a b : List Span) (i j : Nat) (xi yi : Bool) (hl : cl.length ≤ 1000000)
    (hf : apure C n 57 [Tree.bool xi, Tree.bool yi] = some [Tree.bool (xi && !yi)]) :
    J32_11 n ag (([.t (tI t)], Hp) : List AV × Heap) (([], (HH 57 v (opn cl o) o.isSome a b i xi j yi)) : List AV × Heap) =
      ag (([], (HH 57 (nver v o (xi && !yi)) (opn (ncl cl o t (xi && !yi)) (nop o t (xi && !yi))) (nop o t (xi && !yi)).isSome a b i xi j yi)) : List AV × Heap) := by
  have hm : ∀ l : List Span, List.take l.length (List.map Span.enc l) = List.map Span.enc l := fun l => by rw [List.take_of_length_le (by simp)]
  generalize hnow : (xi && !yi) = now at *
  cases o with
  | none =>
    cases now with
    | true => simp only [J32_11, J32_10, J32_9, J32_8, J32_7, HH, vv, reduceCtorEq, Nat.reduceAdd, Nat.reduceEqDiff, hf, opn, ncl, nop, nver, Option.isSome_none, Option.isSome_some, Bool.not_false, List.append_nil, hm, List.map_append, List.map_cons, List.map_nil, Span.enc, (show cl.length + 1 ≤ 1073741824 by omega), Option.getD_none, List.length_append, Nat.le_refl]
    | false => simp only [J32_11, J32_10, J32_9, J32_8, J32_7, HH, vv, reduceCtorEq, Nat.reduceAdd, Nat.reduceEqDiff, hf, opn, ncl, nop, nver, Option.isSome_none, Option.isSome_some, Bool.not_false, List.append_nil]
  | some s =>
    cases now with
    | true => simp only [J32_11, J32_10, J32_9, J32_8, J32_7, HH, vv, reduceCtorEq, Nat.reduceAdd, Nat.reduceEqDiff, hf, opn, ncl, nop, nver, Option.isSome_none, Option.isSome_some, Bool.not_true, Option.getD_some]
    | false =>
      have e1 : w64 (((cl.length + 1 : Nat) : Int) - 1) = (cl.length : Int) := by rw [w64_id (by omega) (by omega)]; omega
      have e2 : (List.map Span.enc cl ++ [[tI s, tI 0]])[cl.length]? = some [tI s, tI 0] := by rw [List.getElem?_append_right (by simp)]; simp
      have e3 : (List.map Span.enc cl ++ [[tI s, tI 0]]).set cl.length [tI s, tI t] = List.map Span.enc cl ++ [[tI s, tI t]] := set_last _ _ _ cl.length (by simp)
      simp only [J32_11, J32_10, J32_9, J32_8, J32_7, HH, vv, reduceCtorEq, Nat.reduceAdd, Nat.reduceEqDiff, hf, opn, ncl, nop, nver, Option.isSome_none, Option.isSome_some, Bool.not_true, List.append_nil, List.map_append, List.map_cons, List.map_nil, Span.enc, List.length_append, e1, e2, e3, List.take, List.drop, List.cons_append, List.nil_append, (show (cl.length : Int) < ((cl.length + 1 : Nat) : Int) by omega), Nat.le_refl]

theorem q1_32_2 (n : Nat) (ag : (List AV × Heap) → Option (List Tree)) (v : Nat) (es : List Span) (ins : Bool) (a b : List Span) (i j : Nat) (xi yi : Bool) (hi : i ≤ a.length) :
    L32_36 n (([], (HH 57 v es ins b a j yi i xi)) : List AV × Heap) ag = J32_35 n ag (([.t (tI (nv (nx a i xi))), .t (.bool (nx a i xi).isSome)], (HH 57 v es ins b a j yi i xi)) : List AV × Heap) := by
  unfold nx nv
  by_cases h : i = a.length
  · subst h
    have hx : a[a.length]? = none := List.getElem?_eq_none (Nat.le_refl _)
    simp only [L32_36, HH, vv, reduceCtorEq, Nat.reduceAdd, Nat.reduceEqDiff, hx, beq_self_eq_true, Option.isSome_none, Option.getD_none]
  · obtain ⟨x, hx⟩ : ∃ x, a[i]? = some x := ⟨a[i]'(by omega), List.getElem?_eq_getElem (by omega)⟩
    have h' : ¬ ((i : Int) = (a.length : Int)) := by omega
    cases xi <;> simp only [L32_36, HH, vv, reduceCtorEq, Nat.reduceAdd, Nat.reduceEqDiff, hx, h', beq_iff_eq, Span.enc, Option.isSome_some, Option.getD_some]
theorem q2_32_2 (n : Nat) (ag : (List AV × Heap) → Option (List Tree)) (m : Int) (fx : Bool) (v : Nat) (es : List Span) (ins : Bool) (a b : List Span) (i j : Nat) (xi yi : Bool) (hj : j ≤ b.length) :
    J32_35 n ag (([.t (tI m), .t (.bool fx)], (HH 57 v es ins b a j yi i xi)) : List AV × Heap) = J32_34 n ag (([.t (tI m), .t (.bool fx)], (HH 57 v es ins b a j yi i xi)) : List AV × Heap) (([.t (tI (nv (nx b j yi))), .t (.bool (nx b j yi).isSome)], (HH 57 v es ins b a j yi i xi)) : List AV × Heap) := by
  unfold nx nv
  by_cases h : j = b.length
  · subst h
    have hx : b[b.length]? = none := List.getElem?_eq_none (Nat.le_refl _)
    simp only [J32_35, HH, vv, reduceCtorEq, Nat.reduceAdd, Nat.reduceEqDiff, hx, beq_self_eq_true, Option.isSome_none, Option.getD_none]
  · obtain ⟨x, hx⟩ : ∃ x, b[j]? = some x := ⟨b[j]'(by omega), List.getElem?_eq_getElem (by omega)⟩
    have h' : ¬ ((j : Int) = (b.length : Int)) := by omega
    cases yi <;> simp only [J32_35, HH, vv, reduceCtorEq, Nat.reduceAdd, Nat.reduceEqDiff, hx, h', beq_iff_eq, Span.enc, Option.isSome_some, Option.getD_some]
theorem q3_32_2 (n : Nat) (ag : (List AV × Heap) → Option (List Tree)) (ox oy : Option Int) (v : Nat) (es : List Span) (ins : Bool) (a b : List Span) (i j : Nat) (xi yi : Bool) :
    J32_34 n ag (([.t (tI (nv ox)), .t (.bool ox.isSome)], (HH 57 v es ins b a j yi i xi)) : List AV × Heap) (([.t (tI (nv oy)), .t (.bool oy.isSome)], (HH 57 v es ins b a j yi i xi)) : List AV × Heap) = match tmin ox oy with
      | none => some (fin es)
      | some t => J32_31 n ag (([.t (tI t)], (HH 57 v es ins b a j yi i xi)) : List AV × Heap) := by
  have hl : ∀ l : List Span, List.take l.length (List.map Span.enc l) = List.map Span.enc l := fun l => by rw [List.take_of_length_le (by simp)]
  cases ox with
  | none => cases oy with
    | none =>
      simp only [J32_34, J32_33, HH, vv, reduceCtorEq, Nat.reduceAdd, Nat.reduceEqDiff, tmin, nv, Option.isSome_none, Option.getD_none, fin]
      by_cases h : 1000 < es.length
      · simp only [h, (show (1000 : Int) < (es.length : Int) by omega), vv, reduceCtorEq, Nat.reduceAdd, Nat.reduceEqDiff]
      · simp only [h, (show ¬ (1000 : Int) < (es.length : Int) by omega), vv, reduceCtorEq, Nat.reduceAdd, Nat.reduceEqDiff, hl]
    | some m => simp only [J32_34, J32_33, J32_32, HH, vv, reduceCtorEq, Nat.reduceAdd, Nat.reduceEqDiff, tmin, nv, Option.isSome_none, Option.isSome_some, Option.getD_none, Option.getD_some]
  | some k => cases oy with
    | none => simp only [J32_34, J32_33, J32_32, HH, vv, reduceCtorEq, Nat.reduceAdd, Nat.reduceEqDiff, tmin, nv, Option.isSome_none, Option.isSome_some, Option.getD_none, Option.getD_some]
    | some m =>
      simp only [J32_34, J32_33, J32_32, HH, vv, reduceCtorEq, Nat.reduceAdd, Nat.reduceEqDiff, tmin, nv, Option.isSome_none, Option.isSome_some, Option.getD_none, Option.getD_some]
      by_cases h : m < k <;> simp only [h, vv, reduceCtorEq, Nat.reduceAdd, Nat.reduceEqDiff]
theorem q4_32_2 (n : Nat) (ag : (List AV × Heap) → Option (List Tree)) (t : Int) (v : Nat) (es : List Span) (ins : Bool) (a b : List Span) (i j : Nat) (xi yi : Bool) (hi : i ≤ a.length) (hl : a.length ≤ 1000) :
    J32_31 n ag (([.t (tI t)], (HH 57 v es ins b a j yi i xi)) : List AV × Heap) = J32_30 n ag (([.t (tI t)], (HH 57 v es ins b a j yi i xi)) : List AV × Heap) (([], (HH 57 v es ins b a j yi (pi_ a i xi t) (pb a i xi t))) : List AV × Heap) := by
  unfold pi_ pb nx
  by_cases h : i = a.length
  · subst h
    have hx : a[a.length]? = none := List.getElem?_eq_none (Nat.le_refl _)
    simp only [J32_31, J32_21, J32_20, J32_19, HH, vv, reduceCtorEq, Nat.reduceAdd, Nat.reduceEqDiff, hx, beq_self_eq_true]
  · obtain ⟨x, hx⟩ : ∃ x, a[i]? = some x := ⟨a[i]'(by omega), List.getElem?_eq_getElem (by omega)⟩
    have h' : ¬ ((i : Int) = (a.length : Int)) := by omega
    cases xi
    · by_cases hq : x.fro = t <;> simp only [J32_31, J32_21, J32_20, J32_19, HH, vv, reduceCtorEq, Nat.reduceAdd, Nat.reduceEqDiff, hx, h', hq, beq_iff_eq, Span.enc, bne_iff_ne, ne_eq, not_true_eq_false, not_false_eq_true, Option.some.injEq]
    · by_cases hq : x.to = t <;> simp only [J32_31, J32_21, J32_20, J32_19, HH, vv, reduceCtorEq, Nat.reduceAdd, Nat.reduceEqDiff, hx, h', hq, beq_iff_eq, Span.enc, bne_iff_ne, ne_eq, not_true_eq_false, not_false_eq_true, Option.some.injEq, w64_succ (show i < 4611686018427387904 by omega), Int.natCast_add, nc1]
theorem q5_32_2 (n : Nat) (ag : (List AV × Heap) → Option (List Tree)) (t : Int) (Hp : Heap) (v : Nat) (es : List Span) (ins : Bool) (a b : List Span) (i j : Nat) (xi yi : Bool) (hj : j ≤ b.length) (hl : b.length ≤ 1000) :
    J32_30 n ag (([.t (tI t)], Hp) : List AV × Heap) (([], (HH 57 v es ins b a j yi i xi)) : List AV × Heap) = J32_29 n ag (([.t (tI t)], Hp) : List AV × Heap) (([], (HH 57 v es ins b a (pi_ b j yi t) (pb b j yi t) i xi)) : List AV × Heap) := by
  unfold pi_ pb nx
  by_cases h : j = b.length
  · subst h
    have hx : b[b.length]? = none := List.getElem?_eq_none (Nat.le_refl _)
    simp only [J32_30, J32_24, J32_23, J32_22, HH, vv, reduceCtorEq, Nat.reduceAdd, Nat.reduceEqDiff, hx, beq_self_eq_true]
  · obtain ⟨x, hx⟩ : ∃ x, b[j]? = some x := ⟨b[j]'(by omega), List.getElem?_eq_getElem (by omega)⟩
    have h' : ¬ ((j : Int) = (b.length : Int)) := by omega
    cases yi
    · by_cases hq : x.fro = t <;> simp only [J32_30, J32_24, J32_23, J32_22, HH, vv, reduceCtorEq, Nat.reduceAdd, Nat.reduceEqDiff, hx, h', hq, beq_iff_eq, Span.enc, bne_iff_ne, ne_eq, not_true_eq_false, not_false_eq_true, Option.some.injEq]
    · by_cases hq : x.to = t <;> simp only [J32_30, J32_24, J32_23, J32_22, HH, vv, reduceCtorEq, Nat.reduceAdd, Nat.reduceEqDiff, hx, h', hq, beq_iff_eq, Span.enc, bne_iff_ne, ne_eq, not_true_eq_false, not_false_eq_true, Option.some.injEq, w64_succ (show j < 4611686018427387904 by omega), Int.natCast_add, nc1]
theorem q6_32_2 (n : Nat) (ag : (List AV × Heap) → Option (List Tree)) (t : Int) (Hp : Heap) (cl : List Span) (o : Option Int) (v : Nat) (a b : List Span) (i j : Nat) (xi yi : Bool) (hl : cl.length ≤ 1000000)
    (hf : apure C n 57 [Tree.bool xi, Tree.bool yi] = some [Tree.bool (xi && !yi)]) :
    J32_29 n ag (([.t (tI t)], Hp) : List AV × Heap) (([], (HH 57 v (opn cl o) o.isSome b a j yi i xi)) : List AV × Heap) =
      ag (([], (HH 57 (nver v o (xi && !yi)) (opn (ncl cl o t (xi && !yi)) (nop o t (xi && !yi))) (nop o t (xi && !yi)).isSome b a j yi i xi)) : List AV × Heap) := by
  have hm : ∀ l : List Span, List.take l.length (List.map Span.enc l) = List.map Span.enc l := fun l => by rw [List.take_of_length_le (by simp)]
  generalize hnow : (xi && !yi) = now at *
  cases o with
  | none =>
    cases now with
    | true => simp only [J32_29, J32_28, J32_27, J32_26, J32_25, HH, vv, reduceCtorEq, Nat.reduceAdd, Nat.reduceEqDiff, hf, opn, ncl, nop, nver, Option.isSome_none, Option.isSome_some, Bool.not_false, List.append_nil, hm, List.map_append, List.map_cons, List.map_nil, Span.enc, (show cl.length + 1 ≤ 1073741824 by omega), Option.getD_none, List.length_append, Nat.le_refl]
    | false => simp only [J32_29, J32_28, J32_27, J32_26, J32_25, HH, vv, reduceCtorEq, Nat.reduceAdd, Nat.reduceEqDiff, hf, opn, ncl, nop, nver, Option.isSome_none, Option.isSome_some, Bool.not_false, List.append_nil]
  | some s =>
    cases now with
    | true => simp only [J32_29, J32_28, J32_27, J32_26, J32_25, HH, vv, reduceCtorEq, Nat.reduceAdd, Nat.reduceEqDiff, hf, opn, ncl, nop, nver, Option.isSome_none, Option.isSome_some, Bool.not_true, Option.getD_some]
    | false =>
      have e1 : w64 (((cl.length + 1 : Nat) : Int) - 1) = (cl.length : Int) := by rw [w64_id (by omega) (by omega)]; omega
      have e2 : (List.map Span.enc cl ++ [[tI s, tI 0]])[cl.length]? = some [tI s, tI 0] := by rw [List.getElem?_append_right (by simp)]; simp
      have e3 : (List.map Span.enc cl ++ [[tI s, tI 0]]).set cl.length [tI s, tI t] = List.map Span.enc cl ++ [[tI s, tI t]] := set_last _ _ _ cl.length (by simp)
      simp only [J32_29, J32_28, J32_27, J32_26, J32_25, HH, vv, reduceCtorEq, Nat.reduceAdd, Nat.reduceEqDiff, hf, opn, ncl, nop, nver, Option.isSome_none, Option.isSome_some, Bool.not_true, List.append_nil, List.map_append, List.map_cons, List.map_nil, Span.enc, List.length_append, e1, e2, e3, List.take, List.drop, List.cons_append, List.nil_append, (show (cl.length : Int) < ((cl.length + 1 : Nat) : Int) by omega), Nat.le_refl]
end Ab
