/- What loud operations leave as it was. -/
import Derived.Test.YthgemjameiibpaaDoorAbM
set_option linter.unusedVariables false
set_option linter.unusedSimpArgs false
namespace Ab
open Go

variable {R : Type} {P : Program} {h : Heap}

/-- Objects outside T stay as they were. -/
def Keeps (T : List Nat) (h h' : Heap) : Prop := h.length ≤ h'.length ∧ ∀ i, i < h.length → i ∉ T → h'[i]? = h[i]?
theorem Keeps.refl (T : List Nat) (h : Heap) : Keeps T h h := ⟨Nat.le_refl _, fun _ _ _ => rfl⟩
theorem Keeps.trans {T : List Nat} {a b c : Heap} (x : Keeps T a b) (y : Keeps T b c) : Keeps T a c :=
  ⟨Nat.le_trans x.1 y.1, fun i hi hn => (y.2 i (Nat.lt_of_lt_of_le hi x.1) hn).trans (x.2 i hi hn)⟩
theorem Keeps.push (T : List Nat) (h : Heap) (o : AObj) : Keeps T h (h ++ [o]) :=
  ⟨by simp, fun i hi _ => List.getElem?_append_left hi⟩
theorem Keeps.set {T : List Nat} (h : Heap) {i : Nat} (hi : i ∈ T) (o : AObj) : Keeps T h (h.set i o) :=
  ⟨by simp, fun j _ hn => by rw [List.getElem?_set_ne]; intro e; exact hn (e ▸ hi)⟩
theorem Keeps.mono {T T' : List Nat} (hT : ∀ i ∈ T, i ∈ T') {a b : Heap} (x : Keeps T a b) : Keeps T' a b :=
  ⟨x.1, fun i hi hn => x.2 i hi fun hm => hn (hT i hm)⟩

theorem rowify_keeps (T : List Nat) : ∀ (vs : List AV) (ts : List TypeId) (h : Heap) {K : List AV → Heap → Option R} {r : R}, rowify P ts vs h K = some r → ∃ vs' h', K vs' h' = some r ∧ Keeps T h h'
  | [], ts, h, K, r, hr => ⟨[], h, by simpa [rowify] using hr, .refl _ _⟩
  | v :: vs, ts, h, K, r, hr => by
    cases v with
    | nilsl =>
      simp only [rowify] at hr
      obtain ⟨vs', h', h1, h2⟩ := rowify_keeps T vs _ _ hr
      exact ⟨_, h', h1, (Keeps.push T h _).trans h2⟩
    | _ =>
      simp only [rowify] at hr
      obtain ⟨vs', h', h1, h2⟩ := rowify_keeps T vs _ _ hr
      exact ⟨_, h', h1, h2⟩

theorem allocBox_keeps (T : List Nat) {t : TypeId} {cs : List AV} {K : AV → Heap → Option R} {r : R} (hr : allocBox P t cs h K = some r) : ∃ v h', K v h' = some r ∧ Keeps T h h' := by
  unfold allocBox at hr
  obtain ⟨vs', h', h1, h2⟩ := rowify_keeps T _ _ _ hr
  exact ⟨_, _, h1, h2.trans (.push T _ _)⟩

theorem det_some {α : Type} {f : ∀ R : Type, (α → Option R) → Option R} (hd : Det f) {R : Type} {K : α → Option R} {r : R} (hr : f R K = some r) : ∃ v, K v = some r := by
  rcases hd with ⟨v, hv⟩ | hn
  · exact ⟨v, (hv R K).symm.trans hr⟩
  · rw [hn] at hr; cases hr

theorem astore_keeps {t : TypeId} {a v : AV} {K : Heap → Option R} {r : R} (hr : astore P t h a v K = some r) : ∃ h', K h' = some r ∧ Keeps (objOf a).toList h h' := by
  unfold astore at hr
  try simp only [cnd_eq] at hr
  split at hr
  · obtain ⟨_, hr⟩ := ite_some hr
    split at hr
    · split at hr
      · obtain ⟨_, hr⟩ := ite_some hr
        obtain ⟨vs', h', h1, h2⟩ := rowify_keeps _ _ _ _ hr
        exact ⟨_, h1, h2.trans (.set _ (by simp [objOf]) _)⟩
      · cases hr
    · split at hr
      · obtain ⟨_, hr⟩ := ite_some hr
        obtain ⟨e, _, hr⟩ := bind_some hr
        obtain ⟨xs, hK⟩ := det_some (det_convs (P := P) (h := h) _ _ _) hr
        exact ⟨_, hK, .set _ (by simp [objOf]) _⟩
      · cases hr
    · cases hr
  · cases hr

theorem aappend_keeps {t : TypeId} {s x : AV} {K : AV → Heap → Option R} {r : R} (hr : aappend P t h s x K = some r) : ∃ v h', K v h' = some r ∧ Keeps (objOf s).toList h h' := by
  unfold aappend at hr
  try simp only [cnd_eq] at hr
  obtain ⟨z, _, hr⟩ := bind_some hr
  obtain ⟨new, hr⟩ := det_some (det_elems h z x) hr
  split at hr
  · obtain ⟨_, hr⟩ := ite_some hr
    exact ⟨_, _, hr, .push _ _ _⟩
  · split at hr
    · split at hr
      · obtain ⟨_, hr⟩ := ite_some hr
        exact ⟨_, _, hr, .refl _ _⟩
      · obtain ⟨_, hr⟩ := ite_some hr
        exact ⟨_, _, hr, .set _ (by simp [objOf]) _⟩
    · cases hr
  · cases hr
theorem aappendIn_keeps {t : TypeId} {s x : AV} {K : AV → Heap → Option R} {r : R} (hr : aappendIn P t h s x K = some r) : ∃ v h', K v h' = some r ∧ Keeps (objOf s).toList h h' := by
  unfold aappendIn at hr
  try simp only [cnd_eq] at hr
  obtain ⟨z, _, hr⟩ := bind_some hr
  obtain ⟨new, hr⟩ := det_some (det_elems h z x) hr
  split at hr
  · split at hr
    · obtain ⟨_, hr⟩ := ite_some hr
      exact ⟨_, _, hr, .set _ (by simp [objOf]) _⟩
    · cases hr
  · cases hr
theorem acopy_keeps {t : TypeId} {d x : AV} {K : AV → Heap → Option R} {r : R} (hr : acopy P t h d x K = some r) : ∃ v h', K v h' = some r ∧ Keeps (objOf d).toList h h' := by
  unfold acopy at hr
  try simp only [cnd_eq] at hr
  obtain ⟨z, _, hr⟩ := bind_some hr
  obtain ⟨new, hr⟩ := det_some (det_srcEs h z x) hr
  split at hr
  · split at hr
    · obtain ⟨_, hr⟩ := ite_some hr
      exact ⟨_, _, hr, .set _ (by simp [objOf]) _⟩
    · cases hr
  · cases hr
theorem aclear_keeps {t : TypeId} {x : AV} {K : Heap → Option R} {r : R} (hr : aclear P t h x K = some r) : ∃ h', K h' = some r ∧ Keeps (objOf x).toList h h' := by
  unfold aclear at hr
  try simp only [cnd_eq] at hr
  split at hr
  · split at hr
    · obtain ⟨_, hr⟩ := ite_some hr
      exact ⟨_, hr, .refl _ _⟩
    · exact ⟨_, hr, .refl _ _⟩
    · obtain ⟨zs, hr⟩ := det_some (det_zeroT (P := P) h _) hr
      split at hr
      · obtain ⟨_, hr⟩ := ite_some hr
        exact ⟨_, hr, .set _ (by simp [objOf]) _⟩
      · cases hr
    · cases hr
  · cases hr
theorem amake_keeps (T : List Nat) {t : TypeId} {n c : AV} {K : AV → Heap → Option R} {r : R} (hr : amake P t h n c K = some r) : ∃ v h', K v h' = some r ∧ Keeps T h h' := by
  unfold amake at hr
  try simp only [cnd_eq] at hr
  obtain ⟨z, _, hr⟩ := bind_some hr
  split at hr
  · obtain ⟨a, _, hr⟩ := bind_some hr
    obtain ⟨b, _, hr⟩ := bind_some hr
    obtain ⟨zs, hr⟩ := det_some (det_zeroT (P := P) h _) hr
    obtain ⟨_, hr⟩ := ite_some hr
    exact ⟨_, _, hr, .push _ _ _⟩
  · cases hr

theorem freeze1_keeps (h : Heap) (v : AV) : Keeps (objOf v).toList h (freeze1 h v) := by
  unfold freeze1
  split
  · split
    · exact .set _ (by simp [objOf]) _
    · exact .refl _ _
  · exact .refl _ _
theorem freezeAll_keeps : ∀ (vs : List AV) (h : Heap), Keeps (vs.filterMap objOf) h (freezeAll h vs)
  | [], h => .refl _ _
  | v :: vs, h => by
    have h1 := freezeAll_keeps vs (freeze1 h v)
    have h2 := freeze1_keeps h v
    refine (h2.mono fun i hi => ?_).trans (h1.mono fun i hi => ?_)
    · rw [List.filterMap_cons]
      cases ho : objOf v with
      | none => rw [ho] at hi; simp at hi
      | some j => rw [ho] at hi; simp at hi; simp [hi]
    · rw [List.filterMap_cons]
      split
      · exact hi
      · exact List.mem_cons_of_mem _ hi

theorem ownRef_mem {h : Heap} : ∀ {ls : List AV} {i v : Nat}, ownRef h ls = some (i, v) → i ∈ ls.filterMap objOf
  | [], i, v, hr => by simp [ownRef] at hr
  | x :: ls, i, v, hr => by
    cases x with
    | sref j a b c =>
      simp only [ownRef] at hr
      split at hr
      · cases hr; simp [objOf]
      · cases hr
    | _ => first
      | (have := ownRef_mem (ls := ls) hr; simp only [List.filterMap_cons, objOf]; exact this)
      | (have := ownRef_mem (ls := ls) hr; simp only [List.filterMap_cons, objOf, List.mem_cons]; exact .inr this)
theorem flat_objs : ∀ (ts : List TypeId) (avs : List AV) {K : List AV → Option R} {r : R}, flatK P ts avs K = some r → ∃ ls, K ls = some r ∧ ∀ i ∈ ls.filterMap objOf, i ∈ (avs.map fun v => match v.cells with | some cs => cs.filterMap objOf | none => []).flatten
  | [], [], K, r, hr => ⟨[], by simpa [flatK] using hr, fun i hi => by simp at hi⟩
  | t :: ts, v :: vs, K, r, hr => by
    unfold flatK at hr
    try simp only [cnd_eq] at hr
    split at hr
    · split at hr
      · rename_i cs
        obtain ⟨_, hr⟩ := ite_some hr
        obtain ⟨ls, h1, h2⟩ := flat_objs ts vs hr
        refine ⟨_, h1, fun i hi => ?_⟩
        rw [List.filterMap_append, List.mem_append] at hi
        rw [List.map_cons, List.flatten_cons, List.mem_append]
        rcases hi with hi | hi
        · exact .inl (by simpa [AV.cells] using hi)
        · exact .inr (h2 i hi)
      · cases hr
    · obtain ⟨hlf, hr⟩ := ite_some hr
      obtain ⟨ls, h1, h2⟩ := flat_objs ts vs hr
      refine ⟨_, h1, fun i hi => ?_⟩
      rw [List.filterMap_cons] at hi
      rw [List.map_cons, List.flatten_cons, List.mem_append]
      cases ho : objOf v with
      | none => rw [ho] at hi; exact .inr (h2 i hi)
      | some j =>
        rw [ho] at hi
        simp only [List.mem_cons] at hi
        rcases hi with hi | hi
        · refine .inl ?_
          cases v <;> simp [objOf] at ho <;> simp [AV.cells, objOf, hi, ho]
        · exact .inr (h2 i hi)
    · cases hr
  | [], v :: vs, K, r, hr => by simp [flatK] at hr
  | t :: ts, [], K, r, hr => by simp [flatK] at hr

theorem loud_keeps {C : Cfg} {rec : Rec} {pc : PRec} {env : Env} {op : Op} {K : AV → Heap → Option R} {r : R} (hl : loudOp C op = true) (hr : stepK C rec pc false env h op K = some r) : ∃ v h', K v h' = some r ∧ Keeps (touch env op) h h' := by
  by_cases hh : isHop op = true
  case neg =>
    have hw : (∃ g args argTypes, op = .call { callee := .value (.func g), args, argTypes }) ∨ ∃ t len parts, op = .buildSlice t len parts := by
      unfold loudOp at hl
      split at hl <;> first | (exact absurd rfl hh) | (exact .inl ⟨_, _, _, rfl⟩) | (exact .inr ⟨_, _, _, rfl⟩) | cases hl
    rcases hw with ⟨g, args, argTypes, rfl⟩ | ⟨t, len, parts, rfl⟩
    case inr =>
      have hf : C.fnTy t = true := hl
      simp only [stepK, isHop, Bool.false_eq_true, if_false, hf, if_true] at hr
      unfold abuildBsl at hr
      try simp only [cnd_eq] at hr
      split at hr
      · obtain ⟨s, _, hr⟩ := bind_some hr
        obtain ⟨z, _, hr⟩ := bind_some hr
        obtain ⟨_, hr⟩ := ite_some hr
        obtain ⟨cs, _, hr⟩ := bind_some hr
        exact ⟨_, _, hr, .push _ _ _⟩
      · cases hr
    have hown : C.own g = true := hl
    have hh' : isHop (.call { callee := .value (.func g), args, argTypes }) = false := by simpa using hh
    unfold stepK at hr
    simp only [hh', Bool.false_eq_true, if_false, ev, callK, cnd_eq] at hr
    obtain ⟨_, hr⟩ := ite_some hr
    unfold fcall at hr
    simp only [hown, if_true, Bool.false_eq_true, if_false, cnd_eq] at hr
    obtain ⟨ls, hr, hls⟩ := flat_objs _ _ hr
    obtain ⟨xs, hr⟩ := det_some (det_convs (P := C.P) (h := freezeAll h ls) _ _ _) hr
    obtain ⟨ys, _, hr⟩ := bind_some hr
    split at hr
    · obtain ⟨z, _, hr⟩ := bind_some hr
      obtain ⟨_, hr⟩ := ite_some hr
      have hsub : ∀ i ∈ ls.filterMap objOf, i ∈ touch env (.call { callee := .value (.func g), args, argTypes }) := fun i hi => by
        have := hls i hi
        rw [List.nil_append, List.append_nil, List.map_map] at this
        exact this
      unfold putOwn at hr
      split at hr
      · rename_i i0 v0 hre
        split at hr
        · refine ⟨_, _, hr, .set _ (hsub i0 ?_) _⟩
          have hre : ownRef h ls = some (i0, v0) := by
            split at hre
            · exact hre
            · cases hre
          exact ownRef_mem hre
        · cases hr
      · exact ⟨_, _, hr, ((freezeAll_keeps ls h).mono hsub).trans (.push _ _ _)⟩
    · cases hr
  unfold stepK at hr
  simp only [hh, if_true, Bool.false_eq_true, if_false] at hr
  cases op with
  | alloc t =>
    simp only [immOf] at hr
    by_cases hc : C.curT t = true
    · simp only [hc, if_true] at hr
      unfold allocImm at hr
      try simp only [cnd_eq] at hr
      split at hr
      · obtain ⟨_, hr⟩ := ite_some hr
        obtain ⟨xs, hr⟩ := det_some (det_convs (P := C.P) (h := h) _ _ _) hr
        exact ⟨_, _, hr, .push _ _ _⟩
      · cases hr
    · simp only [hc, Bool.false_eq_true, if_false, hop] at hr
      split at hr
      · exact allocBox_keeps _ hr
      · cases hr
  | box t x =>
    simp only [immOf] at hr
    by_cases hc : C.cur (condKey x) = true
    · simp only [hc, if_true] at hr
      unfold boxImm at hr
      try simp only [cnd_eq] at hr
      split at hr
      · obtain ⟨_, hr⟩ := ite_some hr
        obtain ⟨xs, hr⟩ := det_some (det_convs (P := C.P) (h := h) _ _ _) hr
        exact ⟨_, _, hr, .refl _ _⟩
      · cases hr
    · simp only [hc, Bool.false_eq_true, if_false, hop] at hr
      split at hr
      · exact allocBox_keeps _ hr
      · cases hr
  | store t a x =>
    simp only [immOf] at hr
    by_cases hc : C.curT t = true
    · simp only [hc, if_true] at hr
      obtain ⟨h', hr, hk⟩ := astore_keeps hr
      refine ⟨_, _, hr, ?_⟩
      refine hk.trans ?_
      cases hv : ev env a <;> first | (simp only [rptrRow]; exact .refl _ _) | skip
      · simp only [rptrRow, touch, hv]
        exact (freeze1_keeps h' _).mono fun i hi => by simpa [objOf] using hi
    · simp only [hc, Bool.false_eq_true, if_false, hop] at hr
      obtain ⟨h', hr, hk⟩ := astore_keeps hr
      exact ⟨_, _, hr, hk⟩
  | call c =>
    obtain ⟨callee, args, argTypes⟩ := c
    cases callee with
    | builtin b =>
      cases b <;> first | (simp [loudOp] at hl; done) | skip
      · simp only [immOf, hop, cnd_eq] at hr
        split at hr
        · rename_i s x t t' hx _
          obtain ⟨_, hr⟩ := ite_some hr
          by_cases hsr : sameRow (ev env s) (ev env x) = true
          · simp only [hsr, if_true] at hr
            obtain ⟨v, h', hr, hk⟩ := aappendIn_keeps hr
            exact ⟨v, h', hr, hk.mono fun i hi => by simp only [touch, hx]; exact hi⟩
          · simp only [hsr, Bool.false_eq_true, if_false] at hr
            obtain ⟨v, h', hr, hk⟩ := aappend_keeps hr
            exact ⟨v, h', hr, hk.mono fun i hi => by simp only [touch, hx]; exact hi⟩
        · cases hr
      · simp only [immOf, hop, cnd_eq] at hr
        split at hr
        · rename_i x t hx _
          obtain ⟨h', hr, hk⟩ := aclear_keeps hr
          exact ⟨_, h', hr, hk.mono fun i hi => by simp only [touch, hx]; exact hi⟩
        · cases hr
      · simp only [immOf, hop, cnd_eq] at hr
        split at hr
        · rename_i d x t _ hx _
          obtain ⟨v, h', hr, hk⟩ := acopy_keeps hr
          exact ⟨v, h', hr, hk.mono fun i hi => by simp only [touch, hx]; exact hi⟩
        · cases hr
    | _ => simp [isHop] at hh
  | makeSlice t n c => simp only [immOf, hop] at hr; exact amake_keeps _ hr
  | _ => first | (simp [loudOp] at hl; done) | (simp [isHop] at hh; done)
end Ab
