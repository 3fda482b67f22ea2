/- Soundness: a heap cut short; the cells of arguments and results; calls. -/
import Derived.Test.YthgemjameiibpaaDoorAbG
namespace Ab
open Go

variable {R : Type} {P : Program} {B : Nat → Prop} {κ : KMap} {h : Heap} {w : World}

/-! ### a heap cut short -/
theorem take_get {α : Type} {l : List α} {m i : Nat} {x : α} (hx : (l.take m)[i]? = some x) : i < m ∧ l[i]? = some x := by
  rcases Nat.lt_or_ge i m with h1 | h1
  · rw [List.getElem?_take_of_lt h1] at hx; exact ⟨h1, hx⟩
  · simp [List.getElem?_take, Nat.not_lt.2 h1] at hx
theorem get_take {α : Type} {l : List α} {m i : Nat} {x : α} (hi : i < m) (hx : l[i]? = some x) : (l.take m)[i]? = some x := by
  rw [List.getElem?_take_of_lt hi]; exact hx

theorem Ex.take {m b : Nat} (hx : Ex (κ.take m) (h.take m) b) : Ex κ h b := by
  obtain ⟨i, base, o, h1, h2, h3⟩ := hx
  exact ⟨i, base, o, (take_get h1).2, (take_get h2).2, h3⟩

theorem VRel.trunc {m : Nat} {x : AV} {v : Value} (hv : VRel B κ h w x v) (hr : Refs m x) : VRel B (κ.take m) (h.take m) w x v := by
  induction hv with
  | undef v => exact .undef v
  | t y v ht => exact .t y v (ht.less fun b hb => hb.imp id Ex.take)
  | nilsl a => exact .nilsl a
  | ptr i off b base hk hb =>
    cases hr with
    | ptr _ _ hi => obtain ⟨cs, hcs⟩ := hb; exact .ptr _ _ _ _ (get_take hi hk) ⟨cs, get_take hi hcs⟩
  | rptr i ver k off v h1 hex hv =>
    cases hr with
    | rptr _ _ _ _ hi =>
      obtain ⟨o, ho, hver⟩ := hex
      refine .rptr _ _ _ _ _ h1 ⟨o, get_take hi ho, hver⟩ fun o' ho' he => ?_
      obtain ⟨b, base, e0, e1⟩ := hv o' (take_get ho').2 he
      exact ⟨b, base, get_take hi e0, e1⟩
  | eptr size cells off b base u h1 h2 h3 h4 h5 => exact .eptr _ _ _ _ _ u h1 h2 (fun hh => h3 (hh.imp id Ex.take)) h4 fun c y hy => (h5 c y hy).less fun b hb => hb.imp id Ex.take
  | sref i ver off len v h1 hex hs =>
    cases hr with
    | sref _ _ _ _ hi =>
      obtain ⟨o, ho, hver⟩ := hex
      exact .sref _ _ _ _ _ h1 ⟨o, get_take hi ho, hver⟩ fun k o' hk ho' he => hs k o' (take_get hk).2 (take_get ho').2 he
  | bsl i off len size cap b hk hb hl =>
    cases hr with
    | bsl _ _ _ _ hi => obtain ⟨cs, hcs, hc⟩ := hb; exact .bsl _ _ _ _ _ _ (get_take hi hk) ⟨cs, get_take hi hcs, hc⟩ hl
  | yld i b base hk hb =>
    cases hr with
    | yld _ hi => obtain ⟨l, hl⟩ := hb; exact .yld _ _ _ (get_take hi hk) ⟨l, get_take hi hl⟩
  | func fn first captured fs cs h1 h2 _ _ i1 i2 =>
    cases hr with
    | func _ _ _ r1 r2 => exact .func _ _ _ _ _ h1 h2 (fun j x hx => i1 j x hx (r1 j x hx)) (fun j x hx => i2 j x hx (r2 j x hx))
  | agg xs vs h1 _ ih =>
    cases hr with
    | agg _ r1 => exact .agg _ _ h1 fun j x hx => ih j x hx (r1 j x hx)
  | tuple xs vs h1 _ ih =>
    cases hr with
    | tuple _ r1 => exact .tuple _ _ h1 fun j x hx => ih j x hx (r1 j x hx)

theorem all_get {α : Type} {p : α → Bool} {l : List α} (hl : l.all p = true) {j : Nat} {x : α} (hx : l[j]? = some x) : p x = true :=
  (List.all_eq_true.1 hl) x (List.mem_of_getElem? hx)

theorem below_refs : ∀ (d : Nat) {m : Nat} {x : AV}, below d m x = true → Refs m x
  | 0, m, x, hb => by simp [below] at hb
  | d + 1, m, x, hb => by
    cases x with
    | undef => exact .undef
    | t y => exact .t y
    | nilsl => exact .nilsl
    | eptr a b c => exact .eptr _ _ _
    | ptr i off => exact .ptr _ _ (by simpa [below] using hb)
    | rptr i v k o => exact .rptr _ _ _ _ (by simpa [below] using hb)
    | sref i v k o => exact .sref _ _ _ _ (by simpa [below] using hb)
    | bsl i v k o => exact .bsl _ _ _ _ (by simpa [below] using hb)
    | yld i => exact .yld _ (by simpa [below] using hb)
    | func fn f c =>
      simp only [below, Bool.and_eq_true] at hb
      exact .func _ _ _ (fun j x hx => below_refs d (all_get hb.1 hx)) (fun j x hx => below_refs d (all_get hb.2 hx))
    | agg cs => simp only [below] at hb; exact .agg _ fun j x hx => below_refs d (all_get hb hx)
    | tuple cs => simp only [below] at hb; exact .tuple _ fun j x hx => below_refs d (all_get hb hx)

theorem Refs.mono {m m' : Nat} (hm : m ≤ m') {x : AV} (hx : Refs m x) : Refs m' x := by
  induction hx with
  | undef => exact .undef
  | t y => exact .t y
  | nilsl => exact .nilsl
  | ptr i o hi => exact .ptr _ _ (Nat.lt_of_lt_of_le hi hm)
  | rptr i v k o hi => exact .rptr _ _ _ _ (Nat.lt_of_lt_of_le hi hm)
  | eptr a b c => exact .eptr _ _ _
  | sref i v k o hi => exact .sref _ _ _ _ (Nat.lt_of_lt_of_le hi hm)
  | bsl i v k o hi => exact .bsl _ _ _ _ (Nat.lt_of_lt_of_le hi hm)
  | yld i hi => exact .yld _ (Nat.lt_of_lt_of_le hi hm)
  | func fn f c _ _ i1 i2 => exact .func _ _ _ i1 i2
  | agg xs _ ih => exact .agg _ ih
  | tuple xs _ ih => exact .tuple _ ih

theorem ORel.trunc {m : Nat} {k : Option (Nat × Nat)} {o : AObj} (ho : ORel B κ h w k o) (hb : obelow m o = true) : ORel B (κ.take m) (h.take m) w k o := by
  cases k with
  | none =>
    cases o with
    | row f v s es => exact ho
    | box cs => exact ho.elim
    | loop l => exact ho.elim
  | some p =>
    obtain ⟨b, base⟩ := p
    cases o with
    | box cs =>
      obtain ⟨h0, cells, elem, hc, hs, hv⟩ := ho
      exact ⟨h0, cells, elem, hc, hs, fun j y hy => (hv j y hy).trunc (below_refs 4 (all_get hb hy))⟩
    | row f v s es =>
      obtain ⟨hz, cells, elem, hc, hs, hl, hv⟩ := ho
      exact ⟨hz, cells, elem, hc, hs, hl, fun j e c y he hy => (hv j e c y he hy).less fun b hb => hb.imp id Ex.take⟩
    | loop l =>
      obtain ⟨f, tmps, hc, hs, hv, hrf, hd, hn⟩ := ho
      have hle : l.hl ≤ m := by simpa [obelow] using hb
      exact ⟨f, tmps, hc, hs, fun i => (hv i).trunc ((hrf i).mono hle), hrf, hd, fun he => hn he.take⟩

theorem HRel.trunc {m : Nat} (hh : HRel B κ h w) (hb : (h.take m).all (obelow m) = true) : HRel B (κ.take m) (h.take m) w :=
  ⟨by simp [hh.len], fun i j b bs bs' hi hj => hh.inj i j b bs bs' (take_get hi).2 (take_get hj).2, fun i b bs hi => hh.notB i b bs (take_get hi).2, fun i b bs hi => hh.lt i b bs (take_get hi).2, hh.ltB,
   fun i o k ho hk => (hh.obj i o k (take_get ho).2 (take_get hk).2).trunc (all_get hb ho)⟩

theorem Ext.trunc {κ' : KMap} {h' : Heap} {w' : World} (x : Ext κ h w κ' h' w') {m : Nat} (hm : h.length ≤ m) : Ext κ h w (κ'.take m) (h'.take m) w' where
  os := x.os
  tape := x.tape
  output := x.output
  size := x.size
  keep := x.keep
  ex := fun b hb => x.ex b hb.take
  obj := fun i o ho => by
    obtain ⟨o', h1, h2⟩ := x.obj i o ho
    exact ⟨o', get_take (Nat.lt_of_lt_of_le (lt_of_get ho) hm) h1, h2⟩
  kap := fun i o o' ho ho' hv => by
    rw [List.getElem?_take_of_lt (Nat.lt_of_lt_of_le (lt_of_get ho) hm)]
    exact x.kap i o o' ho (take_get ho').2 hv
  cells := fun i o o' ho ho' hv b base hk cells elem fr hc => x.cells i o o' ho (take_get ho').2 hv b base hk cells elem fr hc

/-! ### shapes -/
theorem reshapeT_ok {x0 x : Tree} (hs : shapeT x0 x = true) : reshapeT x0 x = x := by
  cases x0 with
  | int k n => exact (isIntT_ok hs).symm
  | bool b => exact (isBoolT_ok hs).symm
  | str b => exact (isStrT_ok hs).symm
  | sl a b => exact (isSlT_ok hs).symm
  | const v => rfl
  | mp k m => rfl
theorem sameL_ok (d : Nat) (ih : ∀ {v v' : AV}, sameV d v v' = true → v = v') : ∀ {a b : List AV}, sameV.sameL d a b = true → a = b
  | [], [], _ => rfl
  | [], _ :: _, h => by simp [sameV.sameL] at h
  | _ :: _, [], h => by simp [sameV.sameL] at h
  | x :: a, y :: b, h => by
    simp only [sameV.sameL, Bool.and_eq_true] at h
    rw [ih h.1, sameL_ok d ih h.2]
theorem sameV_ok : ∀ (d : Nat) {v v' : AV}, sameV d v v' = true → v = v'
  | 0, v, v', h => by simp [sameV] at h
  | d + 1, v, v', h => by
    unfold sameV at h
    split at h
    · simp only [Bool.and_eq_true, beq_iff_eq] at h
      rw [h.1, h.2]
    · simp only [beq_iff_eq] at h
      rw [h]
    · rfl
    · simp only [Bool.and_eq_true, beq_iff_eq] at h
      rw [h.1.1, sameL_ok d (sameV_ok d) h.1.2, sameL_ok d (sameV_ok d) h.2]
    · cases h
theorem reshapeV_ok {v0 v : AV} (hs : shapeV v0 v = true) : reshapeV v0 v = v := by
  cases v0 with
  | t x =>
    simp only [shapeV, Bool.and_eq_true] at hs
    cases v with
    | t y =>
      simp only [reshapeV, treeOf] at hs ⊢
      rw [reshapeT_ok hs.2]
    | _ => simp [isT] at hs
  | sref r a b c => cases v <;> simp_all [shapeV, reshapeV, srVer, srOff, srLen]
  | ptr i o => exact sameV_ok 4 hs
  | yld i => exact sameV_ok 4 hs
  | func f a b => exact sameV_ok 4 hs
  | _ => rfl

theorem reshapeCells_ok : ∀ {cs0 cs : List AV} (pre : List AV), shapeCells cs0 cs = true → reshapeCells (.box (pre ++ cs)) cs0 pre.length = cs
  | [], [], pre, _ => rfl
  | [], c :: cs, pre, hs => by simp [shapeCells] at hs
  | c0 :: cs0, [], pre, hs => by simp [shapeCells] at hs
  | c0 :: cs0, c :: cs, pre, hs => by
    simp only [shapeCells, Bool.and_eq_true] at hs
    have ih := reshapeCells_ok (pre ++ [c]) hs.2
    simp only [List.append_assoc, List.singleton_append, List.length_append, List.length_cons, List.length_nil, Nat.zero_add] at ih
    have hc : cellOf (.box (pre ++ c :: cs)) pre.length = c := by simp [cellOf]
    simp only [reshapeCells, hc, reshapeV_ok hs.1, ih]

theorem reshapeA_ok {v0 v : AV} (hs : shapeA v0 v = true) : reshapeA v0 v = v := by
  cases v0 with
  | agg cs0 =>
    simp only [shapeA, Bool.and_eq_true] at hs
    cases v with
    | agg cs =>
      simp only [reshapeA, aggOf] at hs ⊢
      rw [show reshapeCells (.box cs) cs0 0 = cs from reshapeCells_ok [] hs.2]
    | _ => simp [isAgg] at hs
  | _ =>
    simp only [shapeA] at hs
    simp only [reshapeA]
    exact reshapeV_ok hs

theorem reshape_ok {o0 o : AObj} (hs : shapeOk o0 o = true) (hf : o0.isFrz = true → o = o0) (hrec : o0.kind = 1 → o.rec? = o0.rec?) (hfx : fixedO o0 = true → o = o0) : reshape o0 o = o := by
  by_cases hfo : fixedO o0 = true
  · have := hfx hfo
    subst this
    cases o with
    | box cs => simp only [reshape, hfo, if_true]
    | _ => simp [fixedO] at hfo
  cases o0 with
  | box cs0 =>
    cases o with
    | box cs => simp only [shapeOk, Bool.or_eq_true, hfo, Bool.false_eq_true, false_or] at hs; simp only [reshape, if_neg hfo]; rw [show reshapeCells (.box cs) cs0 0 = cs from reshapeCells_ok [] hs]
    | row a b c d => simp [shapeOk] at hs
    | loop l => simp [shapeOk] at hs
  | row f v s es =>
    cases f with
    | true => rw [hf rfl]; rfl
    | false =>
      cases o with
      | box cs => simp [shapeOk] at hs
      | loop l => simp [shapeOk] at hs
      | row f' v' s' es' =>
        simp only [shapeOk, Bool.and_eq_true, Bool.not_eq_true', Bool.or_eq_true, beq_iff_eq] at hs
        obtain ⟨rfl, hs⟩ := hs
        simp only [reshape, AObj.ver, AObj.size, esOf]
        rcases hs with rfl | rfl
        · simp
        · split <;> simp_all
  | loop l0 =>
    cases o with
    | box cs => simp [shapeOk] at hs
    | row a b c d => simp [shapeOk] at hs
    | loop l =>
      have hrec := hrec rfl
      simp only [AObj.rec?, Option.some.injEq] at hrec
      simp only [shapeOk, Bool.and_eq_true, beq_iff_eq, Option.isNone_iff_eq_none] at hs
      simp only [reshape]
      cases l; cases l0
      simp_all

theorem reshape_still {o0 o o' : AObj} (hs : still o0 = true) : reshape o0 o = reshape o0 o' := by
  cases o0 with
  | box cs => have hs : fixedO (.box cs) = true := hs; simp only [reshape, hs, if_true]
  | row f v s es => cases f with
    | true => rfl
    | false => cases hs
  | loop l => rfl

theorem unpackH_ok : ∀ {h0 h : Heap} (pre : Heap), shapesOk h0 h = true → (∀ (i : Nat) (o0 o : AObj), h0[i]? = some o0 → h[i]? = some o → (o0.isFrz = true → o = o0) ∧ (o0.kind = 1 → o.rec? = o0.rec?) ∧ (fixedO o0 = true → o = o0)) →
    ∀ (rest : Heap), unpackH h0 pre.length (pre ++ (slim h0 h ++ rest)) = h.take h0.length
  | [], h, pre, _, _, rest => by simp [unpackH]
  | o0 :: h0, [], pre, hs, _, rest => by simp [shapesOk] at hs
  | o0 :: h0, o :: h, pre, hs, hx, rest => by
    simp only [shapesOk, Bool.and_eq_true] at hs
    have ih := unpackH_ok (h0 := h0) (h := h) (pre ++ [if still o0 then .box [] else o]) hs.2 (fun i a b ha hb => hx (i + 1) a b (by simpa using ha) (by simpa using hb)) rest
    simp only [List.append_assoc, List.singleton_append, List.length_append, List.length_cons, List.length_nil, Nat.zero_add] at ih
    obtain ⟨h1, h2, h3⟩ := hx 0 o0 o rfl rfl
    simp only [unpackH, slim, List.length_cons, List.take_succ_cons, List.cons_append]
    rw [ih]
    have hg : (pre ++ (if still o0 then .box [] else o) :: (slim h0 h ++ rest)).getD pre.length default = (if still o0 then .box [] else o) := by simp [List.getD]
    rw [hg]
    by_cases hst : still o0 = true
    · rw [reshape_still hst (o' := o), reshape_ok hs.1 h1 h2 h3]
    · rw [if_neg hst, reshape_ok hs.1 h1 h2 h3]

theorem fixK_some {r : R} : ∀ {h0 h : Heap} {a : Option R}, fixK h0 h a = some r → a = some r ∧ ∀ (i : Nat) (o0 o : AObj), h0[i]? = some o0 → h[i]? = some o → fixedO o0 = true → o = o0
  | [], h, a, hr => ⟨hr, fun i o0 o h0 => by simp at h0⟩
  | o0 :: h0, [], a, hr => by simp [fixK] at hr
  | o0 :: h0, o :: h, a, hr => by
    unfold fixK at hr
    split at hr
    · unfold cndO at hr
      split at hr
      · rename_i he
        obtain ⟨h1, h2⟩ := fixK_some hr
        refine ⟨h1, fun i x y hx hy hf => ?_⟩
        cases i with
        | zero => simp at hx hy; rw [← hx, ← hy, he]
        | succ i => exact h2 i x y (by simpa using hx) (by simpa using hy) hf
      · cases hr
    · rename_i hn
      obtain ⟨h1, h2⟩ := fixK_some hr
      refine ⟨h1, fun i x y hx hy hf => ?_⟩
      cases i with
      | zero => simp at hx; rw [← hx] at hf; exact absurd hf hn
      | succ i => exact h2 i x y (by simpa using hx) (by simpa using hy) hf
theorem cutK_ok {h0 h' : Heap} {K : Heap → Option R} {r : R} (hr : cutK h0 h' K = some r) (hx : ∀ (i : Nat) (o0 o : AObj), h0[i]? = some o0 → h'[i]? = some o → (o0.isFrz = true → o = o0) ∧ (o0.kind = 1 → o.rec? = o0.rec?)) :
    ∃ hs, K hs = some r ∧ unpackH h0 0 hs = h'.take h0.length ∧ (h'.take h0.length).all (obelow h0.length) = true := by
  unfold cutK at hr
  try simp only [cnd_eq] at hr
  obtain ⟨⟨h1, h2⟩, h3⟩ := ite_some hr
  obtain ⟨h3, h4⟩ := fixK_some h3
  refine ⟨_, h3, ?_, h1⟩
  have := unpackH_ok [] h2 (fun i o0 o ha hb => ⟨(hx i o0 o ha hb).1, (hx i o0 o ha hb).2, h4 i o0 o ha hb⟩) []
  simpa using this

theorem reshapeL_ok {P : Program} : ∀ {ts : List TypeId} {vs : List AV} (pre : List AV), shapeL P ts vs = true → reshapeL P (pre ++ vs) ts pre.length = vs
  | [], [], pre, _ => rfl
  | [], v :: vs, pre, h => by simp [shapeL] at h
  | t :: ts, [], pre, h => by simp [shapeL] at h
  | t :: ts, v :: vs, pre, h => by
    simp only [shapeL, Bool.and_eq_true] at h
    have ih := reshapeL_ok (pre ++ [v]) h.2
    simp only [List.append_assoc, List.singleton_append, List.length_append, List.length_cons, List.length_nil, Nat.zero_add] at ih
    have hc : (pre ++ v :: vs).getD pre.length .undef = v := by simp
    simp only [reshapeL, hc, reshapeV_ok h.1.2, ih]
theorem shapeL_t {P : Program} : ∀ {ts : List TypeId} {vs : List AV}, shapeL P ts vs = true → ∀ (i : Nat) (m : Nat), Refs m (vs.getD i .undef)
  | [], [], _, i, m => by simp; exact .undef
  | [], v :: vs, h, _, _ => by simp [shapeL] at h
  | t :: ts, [], h, _, _ => by simp [shapeL] at h
  | t :: ts, v :: vs, h, i, m => by
    simp only [shapeL, Bool.and_eq_true] at h
    cases i with
    | zero =>
      have h1 := h.1.1
      cases v <;> first | (exact .t _) | (simp [isT] at h1)
    | succ i => simpa using shapeL_t h.2 i m
theorem ownRef_ok {h : Heap} : ∀ {ls : List AV} {i v : Nat}, ownRef h ls = some (i, v) → ∃ s es, h[i]? = some (.row false v s es)
  | [], i, v, hr => by simp [ownRef] at hr
  | x :: ls, i, v, hr => by
    cases x with
    | sref j a b c =>
      simp only [ownRef] at hr
      split at hr
      · rename_i v' s es hj
        cases hr
        exact ⟨s, es, hj⟩
      · cases hr
    | _ => exact ownRef_ok (ls := ls) hr
theorem freezeAll_only {i : Nat} : ∀ (ls : List AV) (h : Heap), onlyRef i ls = true → ∀ j, j ≠ i → (freezeAll h ls)[j]? = h[j]?
  | [], h, _, j, _ => rfl
  | x :: ls, h, ho, j, hj => by
    simp only [onlyRef, List.all_cons, Bool.and_eq_true] at ho
    show (freezeAll (freeze1 h x) ls)[j]? = h[j]?
    rw [freezeAll_only ls (freeze1 h x) ho.2 j hj]
    cases x with
    | sref k a b c =>
      have hk : k = i := by simpa using ho.1
      simp only [freeze1]
      split
      · rw [List.getElem?_set_ne (by omega)]
      · rfl
    | _ => rfl

theorem ext_shape {κ' : KMap} {h' : Heap} {w' : World} (x : Ext κ h w κ' h' w') (i : Nat) (o0 o : AObj) (h0 : h[i]? = some o0) (h1 : h'[i]? = some o) : (o0.isFrz = true → o = o0) ∧ (o0.kind = 1 → o.rec? = o0.rec?) := by
  obtain ⟨o', h2, h3⟩ := x.obj i o0 h0
  rw [h1] at h2
  cases h2
  exact ⟨h3.2.2.2.1, fun _ => h3.2.2.2.2.2⟩

end Ab
