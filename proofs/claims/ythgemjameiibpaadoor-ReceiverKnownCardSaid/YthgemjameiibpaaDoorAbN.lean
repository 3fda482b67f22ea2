/- Soundness: regions. -/
import Derived.Test.YthgemjameiibpaaDoorAbL2
set_option linter.unusedVariables false
set_option linter.unusedSimpArgs false
namespace Ab
open Go

variable {R : Type} {P : Program} {B : Nat → Prop} {κ : KMap} {h : Heap} {w : World} {N : Nat} {env : Env} {a : Act}

theorem rel_drew (hr : Rel B N κ env h a w) : Rel B N κ env h a { w with drawn := w.drawn + 1 } :=
  ⟨hrel_grow hr.heap (drew_ext hr.heap) fun _ _ => rfl, hr.size, fun i => (hr.slot i).ext (drew_ext hr.heap)⟩

theorem getD_oper {ops : Array Oper} {i : Nat} (hi : i < ops.size) : ops[i]? = some (ops.getD i default) := by
  simp only [Array.getD, hi, dif_pos]
  exact Array.getElem?_eq_getElem hi

theorem take_map {ops : Array Oper} {n : Nat} (hn : n ≤ ops.size) : ops.toList.take n = (List.range n).map fun i => ops.getD i default := by
  apply List.ext_getElem?
  intro i
  rcases Nat.lt_or_ge i n with hi | hi
  · have h1 : i < ops.size := by omega
    rw [List.getElem?_take_of_lt hi, List.getElem?_map, List.getElem?_range hi, Array.getElem?_toList, getD_oper h1]
    rfl
  · rw [List.getElem?_eq_none (by simp; omega), List.getElem?_eq_none (by simp; omega)]

/-! ### steps of a region whose order is open, loud ones among them -/
theorem loud_congr {R : Type} (C : Cfg) (rec : Rec) (pc : PRec) {env env' : Env} {op : Op} (hl : loudOp C op = true) (hE : ∀ x ∈ op.operands, ev env x = ev env' x) (K : AV → Heap → Option R) :
    stepK C rec pc false env h op K = stepK C rec pc false env' h op K := by
  by_cases hh : isHop op = true
  case neg =>
    have hw : (∃ g args argTypes, op = .call { callee := .value (.func g), args, argTypes }) ∨ ∃ t len parts, op = .buildSlice t len parts := by
      unfold loudOp at hl
      split at hl <;> first | (exact absurd rfl hh) | (exact .inl ⟨_, _, _, rfl⟩) | (exact .inr ⟨_, _, _, rfl⟩) | cases hl
    rcases hw with ⟨g, args, argTypes, rfl⟩ | ⟨t, len, parts, rfl⟩
    case inr =>
      have hf : C.fnTy t = true := hl
      have hparts : parts.toList.map (fun p => (p.1, ev env p.2)) = parts.toList.map (fun p => (p.1, ev env' p.2)) :=
        List.map_congr_left fun p hm => by rw [hE p.2 (by simp [Op.operands]; exact ⟨p.1, by simpa using hm⟩)]
      simp only [stepK, isHop, Bool.false_eq_true, if_false, hf, if_true, hparts]
    have hh' : isHop (.call { callee := .value (.func g), args, argTypes }) = false := by simpa using hh
    have hm : args.toList.map (ev env) = args.toList.map (ev env') := List.map_congr_left fun y hy => hE y (by simp [Op.operands, Call.operands]; right; simpa using hy)
    unfold stepK
    simp only [hh', Bool.false_eq_true, if_false, hm]
    rfl
  unfold stepK
  simp only [hh, if_true, Bool.false_eq_true, if_false]
  cases op with
  | alloc t =>
    simp only [immOf]
    by_cases hc : C.curT t = true <;> simp [hc, hop]
  | box t x =>
    have h1 := hE x (by simp [Op.operands])
    simp only [immOf]
    by_cases hc : C.cur (condKey x) = true <;> simp [hc, hop, h1]
  | store t a x =>
    have h1 := hE a (by simp [Op.operands])
    have h2 := hE x (by simp [Op.operands])
    simp only [immOf]
    by_cases hc : C.curT t = true <;> simp [hc, hop, h1, h2]
  | call c =>
    obtain ⟨callee, args, argTypes⟩ := c
    cases callee with
    | builtin b =>
      cases b <;> first | (simp [loudOp] at hl; done) | skip
      · simp only [immOf, hop]
        split
        · rename_i s x t t' hx _
          have hm : ∀ y ∈ args.toList, ev env y = ev env' y := fun y hy => hE y (by simp [Op.operands, Call.operands]; simpa using hy)
          rw [hm s (by rw [hx]; simp), hm x (by rw [hx]; simp)]
        · rfl
      · simp only [immOf, hop]
        split
        · rename_i x t hx _
          have hm : ∀ y ∈ args.toList, ev env y = ev env' y := fun y hy => hE y (by simp [Op.operands, Call.operands]; simpa using hy)
          rw [hm x (by rw [hx]; simp)]
        · rfl
      · simp only [immOf, hop]
        split
        · rename_i d x t _ hx _
          have hm : ∀ y ∈ args.toList, ev env y = ev env' y := fun y hy => hE y (by simp [Op.operands, Call.operands]; simpa using hy)
          rw [hm d (by rw [hx]; simp), hm x (by rw [hx]; simp)]
        · rfl
    | _ => simp [isHop] at hh
  | makeSlice t n c =>
    have h1 := hE n (by simp [Op.operands])
    have h2 := hE c (by simp [Op.operands])
    simp [immOf, hop, h1, h2]
  | _ => first | (simp [loudOp] at hl; done) | (simp [isHop] at hh; done)

noncomputable def dval (C : Cfg) (rec : Rec) (pc : PRec) (env : Env) (h : Heap) (op : Op) : Option (AV × Heap) := stepK C rec pc (!loudOp C op) env h op fun v h' => some (v, h')
theorem dval_eq {R : Type} (C : Cfg) (rec : Rec) (pc : PRec) (env : Env) (op : Op) (K : AV → Heap → Option R) : stepK C rec pc (!loudOp C op) env h op K = (dval C rec pc env h op).bind fun p => K p.1 p.2 := by
  unfold dval
  cases hl : loudOp C op with
  | false =>
    simp only [Bool.not_false, step_eq]
    cases qval C rec pc h env op <;> rfl
  | true =>
    simp only [Bool.not_true]
    rcases det_loud (h := h) C rec pc env op hl with ⟨p, hp⟩ | hn
    · rw [show stepK C rec pc false env h op K = K p.1 p.2 from hp R fun q => K q.1 q.2, show (stepK C rec pc false env h op fun v h' => some (v, h')) = some p from hp (AV × Heap) some]
      rfl
    · rw [show stepK C rec pc false env h op K = none from hn R fun q => K q.1 q.2, show (stepK C rec pc false env h op fun v h' => some (v, h')) = none from hn (AV × Heap) some]
      rfl
def Asked (C : Cfg) (N : Nat) (S : List Nat) (nf : Bool) (o : Oper) (env : Env) (h : Heap) : Prop := dstOk N o = true ∧ (nf = true → hfreeOp S env o.op = true) ∧ insideS S h = true ∧ (loudOp C o.op = true → apartS S (touch env o.op) = true)
instance (C : Cfg) (N : Nat) (S : List Nat) (nf : Bool) (o : Oper) (env : Env) (h : Heap) : Decidable (Asked C N S nf o env h) := by unfold Asked; infer_instance
noncomputable def dput (C : Cfg) (rec : Rec) (pc : PRec) (N : Nat) (ops : Array Oper) (S : List Nat) (nf : Bool) (o : Oper) (env : Env) (h : Heap) : Option (AV × Heap) :=
  if Asked C N S nf o env h then (gval ops o env).bind fun b => if b then dval C rec pc env h o.op else some (.tuple [], h) else none
noncomputable def fstep (C : Cfg) (rec : Rec) (pc : PRec) (N : Nat) (ops : Array Oper) (S : List Nat) (nf : Nat → Bool) (i : Nat) (s : Env × Heap) : Option (Env × Heap) :=
  match ops[i]? with
  | some o => (dput C rec pc N ops S (nf i) o s.1 s.2).map fun p => (s.1.put o.dst p.1, p.2)
  | none => none
theorem aopsI_fold {R : Type} (C : Cfg) (rec : Rec) (pc : PRec) (N : Nat) (ops : Array Oper) (S : List Nat) (nf : Nat → Bool) : ∀ (l : List Nat) (env : Env) (h : Heap) (K : Env → Heap → Option R),
    aopsI C rec pc N ops S nf l env h K = (l.foldlM (fun s i => fstep C rec pc N ops S nf i s) (env, h)).bind fun s => K s.1 s.2
  | [], env, h, K => rfl
  | i :: l, env, h, K => by
    simp only [aopsI, List.foldlM_cons, fstep]
    cases ho : ops[i]? with
    | none => rfl
    | some o =>
      simp only [dput, cnd_eq]
      by_cases hd : Asked C N S (nf i) o env h
      · rw [if_pos (show _ ∧ _ from hd), if_pos hd, guard_eq]
        cases gval ops o env with
        | none => rfl
        | some b =>
          cases b with
          | true =>
            simp only [Option.bind_some, if_true, dval_eq]
            cases dval C rec pc env h o.op with
            | none => rfl
            | some p => simp only [Option.bind_some, Option.map_some, aopsI_fold C rec pc N ops S nf l]; rfl
          | false => simp only [Option.bind_some, Bool.false_eq_true, if_false, aopsI_fold C rec pc N ops S nf l]; rfl
      · rw [if_neg (show ¬ (_ ∧ _) from hd), if_neg hd]; rfl

theorem free_congr {S : List Nat} {env env' : Env} {op : Op} (hE : ∀ x ∈ op.operands, ev env x = ev env' x) : hfreeOp S env op = hfreeOp S env' op := by
  unfold hfreeOp
  cases blindOp op with
  | true => rfl
  | false =>
    simp only [Bool.false_or]
    rw [Bool.eq_iff_iff, List.all_eq_true, List.all_eq_true]
    constructor
    · intro hh x hx; rw [← hE x (by simpa using hx)]; exact hh x hx
    · intro hh x hx; rw [hE x (by simpa using hx)]; exact hh x hx
theorem touch_congr {env env' : Env} {op : Op} (hE : ∀ x ∈ op.operands, ev env x = ev env' x) : touch env op = touch env' op := by
  cases op with
  | store t a x =>
    have h1 := hE a (by simp [Op.operands])
    simp only [touch, h1]
  | call c =>
    obtain ⟨callee, args, argTypes⟩ := c
    cases callee with
    | builtin b =>
      simp only [touch]
      split
      · rename_i s rest hx
        have hm : ∀ y ∈ args.toList, ev env y = ev env' y := fun y hy => hE y (by simp [Op.operands, Call.operands]; simpa using hy)
        rw [hm s (by rw [hx]; simp)]
      · rfl
    | value f =>
      have hm : ∀ y ∈ args.toList, ev env y = ev env' y := fun y hy => hE y (by simp [Op.operands, Call.operands]; right; simpa using hy)
      simp only [touch]
      congr 1
      exact List.map_congr_left fun y hy => by rw [hm y hy]
    | _ => rfl
  | _ => rfl
theorem asked_congr (C : Cfg) (N : Nat) (S : List Nat) (nf : Bool) (o : Oper) {env env' : Env} (hE : ∀ x ∈ o.op.operands, ev env x = ev env' x) : Asked C N S nf o env h ↔ Asked C N S nf o env' h := by
  unfold Asked
  rw [free_congr hE, touch_congr hE]
theorem dput_congr (C : Cfg) (rec : Rec) (pc : PRec) (N : Nat) (ops : Array Oper) (S : List Nat) (nf : Bool) (o : Oper) {env env' : Env} (hE : ∀ t ∈ o.looksAt ops, env t = env' t) : dput C rec pc N ops S nf o env h = dput C rec pc N ops S nf o env' h := by
  have h1 := looks_ev ops o hE
  unfold dput
  rw [gval_congr ops o hE]
  have : dval C rec pc env h o.op = dval C rec pc env' h o.op := by
    unfold dval
    cases hl : loudOp C o.op with
    | true => exact loud_congr C rec pc hl h1 _
    | false =>
      simp only [Bool.not_false, step_eq]
      rw [qval_congr C rec pc o.op h1]
  rw [this]
  by_cases hd : Asked C N S nf o env h
  · rw [if_pos hd, if_pos ((asked_congr C N S nf o h1).1 hd)]
  · rw [if_neg hd, if_neg fun hd' => hd ((asked_congr C N S nf o h1).2 hd')]
noncomputable def qputF (C : Cfg) (rec : Rec) (pc : PRec) (N : Nat) (ops : Array Oper) (S : List Nat) (nf : Bool) (o : Oper) (env : Env) (h : Heap) : Option AV :=
  if Asked C N S nf o env h then (gval ops o env).bind fun b => if b then qval C rec pc h env o.op else some (.tuple []) else none
theorem dput_quiet (C : Cfg) (rec : Rec) (pc : PRec) (N : Nat) (ops : Array Oper) (S : List Nat) (nf : Bool) (o : Oper) (env : Env) (hl : loudOp C o.op = false) : dput C rec pc N ops S nf o env h = (qputF C rec pc N ops S nf o env h).map fun v => (v, h) := by
  unfold dput qputF dval
  rw [hl]
  simp only [Bool.not_false, step_eq]
  split
  · cases gval ops o env with
    | none => rfl
    | some b =>
      cases b
      · rfl
      · simp only [Option.bind_some, if_true]
        cases qval C rec pc h env o.op <;> rfl
  · rfl
theorem qputF_free (C : Cfg) (rec : Rec) (pc : PRec) (N : Nat) (ops : Array Oper) (S : List Nat) (o : Oper) (env : Env) {h h' : Heap} (hin : insideS S h = true) (hin' : insideS S h' = true) (hag : ∀ i ∈ S, h[i]? = h'[i]?) : qputF C rec pc N ops S true o env h = qputF C rec pc N ops S true o env h' := by
  unfold qputF
  have hiff : Asked C N S true o env h ↔ Asked C N S true o env h' := by
    unfold Asked
    rw [hin, hin']
  by_cases hd : Asked C N S true o env h
  · rw [if_pos hd, if_pos (hiff.1 hd), qval_free hag (hd.2.1 rfl)]
  · rw [if_neg hd, if_neg fun hd' => hd (hiff.2 hd')]
theorem inside_keeps {S T : List Nat} {h h' : Heap} (hin : insideS S h = true) (hk : Keeps T h h') : insideS S h' = true := by
  unfold insideS at *
  rw [List.all_eq_true] at *
  intro i hi
  have := hin i hi
  simp only [decide_eq_true_eq] at *
  have := hk.1
  omega
theorem agree_keeps {S T : List Nat} {h h' : Heap} (hin : insideS S h = true) (hap : apartS S T = true) (hk : Keeps T h h') : ∀ i ∈ S, h'[i]? = h[i]? := by
  intro i hi
  unfold insideS at hin
  rw [List.all_eq_true] at hin
  refine hk.2 i (by simpa using hin i hi) fun hT => ?_
  unfold apartS at hap
  rw [List.all_eq_true] at hap
  have := hap i hT
  simp at this
  exact this hi
theorem dput_loud {C : Cfg} {rec : Rec} {pc : PRec} {N : Nat} {ops : Array Oper} {S : List Nat} {nf : Bool} {o : Oper} {env : Env} {h : Heap} {p : AV × Heap} (hl : loudOp C o.op = true) (hd : dput C rec pc N ops S nf o env h = some p) : insideS S h = true ∧ insideS S p.2 = true ∧ ∀ i ∈ S, p.2[i]? = h[i]? := by
  unfold dput at hd
  obtain ⟨ha, hd⟩ := ite_some hd
  have hin := ha.2.2.1
  obtain ⟨b, _, hd⟩ := bind_some hd
  cases b with
  | false =>
    simp only [Bool.false_eq_true, if_false, Option.some.injEq] at hd
    subst hd
    exact ⟨hin, hin, fun _ _ => rfl⟩
  | true =>
    simp only [if_true] at hd
    unfold dval at hd
    rw [hl] at hd
    simp only [Bool.not_true] at hd
    obtain ⟨v, h', hv, hk⟩ := loud_keeps hl hd
    cases hv
    exact ⟨hin, inside_keeps hin hk, agree_keeps hin (ha.2.2.2 hl) hk⟩

/-- A loud step and a quiet free one. -/
theorem loud_comm (C : Cfg) (rec : Rec) (pc : PRec) (N : Nat) (ops : Array Oper) (S : List Nat) (nf : Nat → Bool) {i j : Nat} {a b : Oper} (hi : ops[i]? = some a) (hj : ops[j]? = some b) (h1 : ∀ d, a.dst = some d → d ∉ b.looksAt ops) (h2 : ∀ d, a.dst = some d → b.dst ≠ some d) (h3 : ∀ d, b.dst = some d → d ∉ a.looksAt ops)
    (ha : loudOp C a.op = true) (hb : loudOp C b.op = false) (hnf : nf j = true) (s : Env × Heap) : (fstep C rec pc N ops S nf i s).bind (fstep C rec pc N ops S nf j) = (fstep C rec pc N ops S nf j s).bind (fstep C rec pc N ops S nf i) := by
  obtain ⟨env, h⟩ := s
  have hA : ∀ v, dput C rec pc N ops S (nf i) a (env.put b.dst v) h = dput C rec pc N ops S (nf i) a env h := fun v => dput_congr C rec pc N ops S _ a fun t ht => put_other fun d hd e => h3 d hd (e ▸ ht)
  have hB : ∀ v h', insideS S h = true → insideS S h' = true → (∀ i ∈ S, h'[i]? = h[i]?) → dput C rec pc N ops S (nf j) b (env.put a.dst v) h' = (qputF C rec pc N ops S true b env h).map fun u => (u, h') := fun v h' hi1 hi2 hag => by
    rw [dput_congr (env' := env) C rec pc N ops S _ b fun t ht => put_other fun d hd e => h1 d hd (e ▸ ht), hnf, dput_quiet C rec pc N ops S true b env hb, qputF_free C rec pc N ops S b env hi2 hi1 hag]
  have hB0 : dput C rec pc N ops S (nf j) b env h = (qputF C rec pc N ops S true b env h).map fun u => (u, h) := by rw [hnf, dput_quiet C rec pc N ops S true b env hb]
  have fi : fstep C rec pc N ops S nf i = fun s => (dput C rec pc N ops S (nf i) a s.1 s.2).map fun p => (s.1.put a.dst p.1, p.2) := by funext s; simp only [fstep, hi]
  have fj : fstep C rec pc N ops S nf j = fun s => (dput C rec pc N ops S (nf j) b s.1 s.2).map fun p => (s.1.put b.dst p.1, p.2) := by funext s; simp only [fstep, hj]
  simp only [fi, fj]
  cases hd : dput C rec pc N ops S (nf i) a env h with
  | none =>
    rw [hB0]
    cases qputF C rec pc N ops S true b env h with
    | none => rfl
    | some u => simp [hA, hd]
  | some p =>
    obtain ⟨hi1, hi2, hag⟩ := dput_loud ha hd
    simp only [Option.map_some, Option.bind_some, hB _ _ hi1 hi2 hag, hB0]
    cases qputF C rec pc N ops S true b env h with
    | none => rfl
    | some u =>
      simp only [Option.map_some, Option.bind_some, hA, hd]
      rw [put_comm h2]
/-- Two quiet steps. -/
theorem quiet_comm (C : Cfg) (rec : Rec) (pc : PRec) (N : Nat) (ops : Array Oper) (S : List Nat) (nf : Nat → Bool) {i j : Nat} {a b : Oper} (hi : ops[i]? = some a) (hj : ops[j]? = some b) (h1 : ∀ d, a.dst = some d → d ∉ b.looksAt ops) (h2 : ∀ d, a.dst = some d → b.dst ≠ some d) (h3 : ∀ d, b.dst = some d → d ∉ a.looksAt ops)
    (ha : loudOp C a.op = false) (hb : loudOp C b.op = false) (s : Env × Heap) : (fstep C rec pc N ops S nf i s).bind (fstep C rec pc N ops S nf j) = (fstep C rec pc N ops S nf j s).bind (fstep C rec pc N ops S nf i) := by
  obtain ⟨env, h⟩ := s
  have hA : ∀ v, dput C rec pc N ops S (nf i) a (env.put b.dst v) h = dput C rec pc N ops S (nf i) a env h := fun v => dput_congr C rec pc N ops S _ a fun t ht => put_other fun d hd e => h3 d hd (e ▸ ht)
  have hB : ∀ v, dput C rec pc N ops S (nf j) b (env.put a.dst v) h = dput C rec pc N ops S (nf j) b env h := fun v => dput_congr C rec pc N ops S _ b fun t ht => put_other fun d hd e => h1 d hd (e ▸ ht)
  have qa := dput_quiet (h := h) C rec pc N ops S (nf i) a env ha
  have qb := dput_quiet (h := h) C rec pc N ops S (nf j) b env hb
  have fi : fstep C rec pc N ops S nf i = fun s => (dput C rec pc N ops S (nf i) a s.1 s.2).map fun p => (s.1.put a.dst p.1, p.2) := by funext s; simp only [fstep, hi]
  have fj : fstep C rec pc N ops S nf j = fun s => (dput C rec pc N ops S (nf j) b s.1 s.2).map fun p => (s.1.put b.dst p.1, p.2) := by funext s; simp only [fstep, hj]
  simp only [fi, fj]
  cases hqa : qputF C rec pc N ops S (nf i) a env h with
  | none =>
    rw [hqa] at qa
    rw [qa]
    cases hqb : qputF C rec pc N ops S (nf j) b env h with
    | none => rw [hqb] at qb; rw [qb]; rfl
    | some u => rw [hqb] at qb; rw [qb]; simp [hA, qa]
  | some v =>
    rw [hqa] at qa
    rw [qa]
    cases hqb : qputF C rec pc N ops S (nf j) b env h with
    | none => rw [hqb] at qb; simp [hB, qb]
    | some u =>
      rw [hqb] at qb
      simp only [Option.map_some, Option.bind_some, hA, hB, qa, qb]
      rw [put_comm h2]

theorem aopsI_ok {C : Cfg} {rec : Rec} {pc : PRec} (hrec : RecOk C.P rec) (hpc : PRecOk C.P pc) (ops : Array Oper) (S : List Nat) (nf : Nat → Bool) (Q : Exit → Act → World → Prop) (n : Nat) (ro : Option Nat) (rest : List Nat) :
    ∀ (l : List Nat) {K : Env → Heap → Option R} {r : R} {env : Env} {h : Heap} {κ : KMap} {a : Act} {w : World},
      aopsI C rec pc N ops S nf l env h K = some r → Rel B N κ env h a w → NextOps B N κ h w false (l.map fun i => ops.getD i default) env a K r (wpOpsIn (Fr ro) n C.P ops Q rest) → wpOpsIn (Fr ro) n C.P ops Q (l ++ rest) a w
  | [], K, r, env, h, κ, a, w, hk, hr, hn => hn env h κ a w hk hr (Ext.refl _ _ _) (fun _ _ => rfl) rfl fun e => by cases e
  | i :: l, K, r, env, h, κ, a, w, hk, hr, hn => by
    simp only [aopsI, cnd_eq] at hk
    split at hk
    · rename_i o ho
      obtain ⟨⟨hd, _⟩, hk⟩ := ite_some hk
      have hgo : ops.getD i default = o := by
        have hlt : i < ops.size := (Array.getElem?_eq_some_iff.1 ho).1
        have := getD_oper hlt
        rw [ho] at this
        exact (Option.some.inj this).symm
      simp only [List.cons_append, wpOpsIn, ho]
      simp only [List.map_cons, hgo] at hn
      have hput : ∀ (v : AV) (t : Tmp), t ∉ (o :: l.map fun i => ops.getD i default).filterMap (·.dst) → (env.put o.dst v) t = env t := fun v t hni => by
        cases hdst : o.dst with
        | none => rfl
        | some d =>
          simp only [Env.put]
          rw [if_neg fun e => hni (by simp [hdst, e])]
      have hpd : ∀ val, (a.put o.dst val).defers = a.defers := fun val => by cases o.dst <;> rfl
      have hsub : ∀ t, t ∉ (o :: l.map fun i => ops.getD i default).filterMap (·.dst) → t ∉ (l.map fun i => ops.getD i default).filterMap (·.dst) := fun t hni hm => hni (by
        simp only [List.filterMap_cons]
        split
        · exact hm
        · exact List.mem_cons_of_mem _ hm)
      rcases guard_ok hk hr with ⟨hw, hk1⟩ | ⟨hw, hk1⟩
      · simp only [hw, if_true]
        refine step_ok hrec hpc o hk1 hr _ Q n ro fun v h' κ' val w' h1 h2 h3 h4 h5 => ?_
        refine aopsI_ok hrec hpc ops S nf Q n ro rest l h1 (rel_put hr h3 h4 h2 o hd) fun env2 h2 κ2 a2 w2 k1 k2 k3 k4 k5 k6 => ?_
        exact hn env2 h2 κ2 a2 w2 k1 k2 (h4.trans k3) (fun t hni => (k4 t (hsub t hni)).trans (hput v t hni)) (k5.trans (hpd _)) fun e => by cases e
      · simp only [hw, Bool.false_eq_true, if_false]
        refine ⟨fun _ _ => trivial, ?_⟩
        refine aopsI_ok hrec hpc ops S nf Q n ro rest l hk1 (rel_put hr hr.heap (Ext.refl _ _ _) (.tuple _ _ rfl fun j x hx => by simp at hx) o hd) fun env2 h2 κ2 a2 w2 k1 k2 k3 k4 k5 k6 => ?_
        exact hn env2 h2 κ2 a2 w2 k1 k2 k3 (fun t hni => (k4 t (hsub t hni)).trans (hput _ t hni)) (k5.trans (hpd _)) fun e => by cases e
    · cases hk

/-! ### a call in place at the end of the open part -/
theorem samePtrs_eq : ∀ (xs ys : List AV), samePtrs xs ys = true → xs = ys
  | [], [], _ => rfl
  | x :: xs, y :: ys, hs => by
    cases x <;> cases y <;> simp only [samePtrs, Bool.and_eq_true, beq_iff_eq] at hs <;> first | (cases hs; done) | skip
    obtain ⟨⟨rfl, rfl⟩, h3⟩ := hs
    rw [samePtrs_eq xs ys h3]
  | [], _ :: _, hs => by simp [samePtrs] at hs
  | x :: _, [], hs => by cases x <;> simp [samePtrs] at hs
theorem sameAt_eq {h h' : Heap} {i : Nat} (hs : sameAt h h' i = true) : h'[i]? = h[i]? ∧ i < h'.length := by
  unfold sameAt at hs
  split at hs
  · rename_i xs ys h1 h2
    rw [samePtrs_eq _ _ hs] at h1
    exact ⟨h2.trans h1.symm, (List.getElem?_eq_some_iff.1 h2).1⟩
  · cases hs
theorem call_congr {R : Type} (C : Cfg) (rec : Rec) (pc : PRec) {env env' : Env} {op : Op} (hl : heapCall C op = true) (hE : ∀ x ∈ op.operands, ev env x = ev env' x) (K : AV → Heap → Option R) :
    stepK C rec pc false env h op K = stepK C rec pc false env' h op K := by
  obtain ⟨g, args, argTypes, rfl⟩ : ∃ g args argTypes, op = .call { callee := .value (.func g), args, argTypes } := by
    unfold heapCall at hl
    split at hl
    · exact ⟨_, _, _, rfl⟩
    · cases hl
  have hh' : isHop (.call { callee := .value (.func g), args, argTypes }) = false := rfl
  have hm : args.toList.map (ev env) = args.toList.map (ev env') := List.map_congr_left fun y hy => hE y (by simp [Op.operands, Call.operands]; right; simpa using hy)
  unfold stepK
  simp only [hh', Bool.false_eq_true, if_false, hm]
  rfl
theorem callV_congr {R : Type} (C : Cfg) (rec : Rec) (pc : PRec) {env env' : Env} {op : Op} (hl : isCallV op = true) (hE : ∀ x ∈ op.operands, ev env x = ev env' x) (K : AV → Heap → Option R) :
    stepK C rec pc false env h op K = stepK C rec pc false env' h op K := by
  obtain ⟨f, args, argTypes, rfl⟩ : ∃ f args argTypes, op = .call { callee := .value f, args, argTypes } := by
    unfold isCallV at hl
    split at hl
    · exact ⟨_, _, _, rfl⟩
    · cases hl
  have hh' : isHop (.call { callee := .value f, args, argTypes }) = false := rfl
  have hm : args.toList.map (ev env) = args.toList.map (ev env') := List.map_congr_left fun y hy => hE y (by simp [Op.operands, Call.operands]; right; simpa using hy)
  have hf : ev env f = ev env' f := hE f (by simp [Op.operands, Call.operands])
  unfold stepK
  simp only [hh', Bool.false_eq_true, if_false, hm, hf]
/-- Quiet free steps give the same behind the call as ahead of it. -/
theorem quiet_fold (C : Cfg) (rec : Rec) (pc : PRec) (N : Nat) (ops : Array Oper) (S : List Nat) (nf : Nat → Bool) (o : Oper) : ∀ (l : List Nat) (env : Env) (h : Heap) (s2 : Env × Heap),
    (∀ y ∈ l, ∃ o', ops[y]? = some o' ∧ loudOp C o'.op = false ∧ nf y = true ∧ (∀ d, o.dst = some d → d ∉ o'.looksAt ops) ∧ (∀ d, o.dst = some d → o'.dst ≠ some d) ∧ ∀ d, o'.dst = some d → d ∉ o.looksAt ops) →
    l.foldlM (fun s i => fstep C rec pc N ops S nf i s) (env, h) = some s2 → s2.2 = h ∧ (∀ t ∈ o.looksAt ops, s2.1 t = env t) ∧ ∀ v h', insideS S h' = true → insideS S h = true → (∀ i ∈ S, h'[i]? = h[i]?) →
      l.foldlM (fun s i => fstep C rec pc N ops S nf i s) (env.put o.dst v, h') = some (s2.1.put o.dst v, h')
  | [], env, h, s2, _, hf => by
    simp only [List.foldlM_nil] at hf
    cases hf
    exact ⟨rfl, fun _ _ => rfl, fun v h' _ _ _ => rfl⟩
  | y :: l, env, h, s2, hq, hf => by
    obtain ⟨o', ho', hl, hnf, q1, q2, q3⟩ := hq y (by simp)
    have fy : ∀ s, fstep C rec pc N ops S nf y s = (dput C rec pc N ops S (nf y) o' s.1 s.2).map fun p => (s.1.put o'.dst p.1, p.2) := fun s => by simp only [fstep, ho']
    rw [List.foldlM_cons, fy, hnf, dput_quiet C rec pc N ops S true o' env hl] at hf
    cases hu : qputF C rec pc N ops S true o' env h with
    | none => rw [hu] at hf; cases hf
    | some u =>
      rw [hu] at hf
      have hf' : l.foldlM (fun s i => fstep C rec pc N ops S nf i s) (env.put o'.dst u, h) = some s2 := hf
      obtain ⟨e1, e2, e3⟩ := quiet_fold C rec pc N ops S nf o l (env.put o'.dst u) h s2 (fun z hz => hq z (by simp [hz])) hf'
      refine ⟨e1, fun t ht => (e2 t ht).trans (put_other fun d hd e => q3 d hd (e ▸ ht)), fun v h' hi' hi hag => ?_⟩
      have h1 : dput C rec pc N ops S true o' (env.put o.dst v) h' = some (u, h') := by
        rw [dput_congr (env' := env) C rec pc N ops S true o' fun t ht => put_other fun d hd e => q1 d hd (e ▸ ht), dput_quiet C rec pc N ops S true o' env hl, qputF_free C rec pc N ops S o' env hi' hi hag, hu]
        rfl
      rw [List.foldlM_cons, fy, hnf]
      simp only [h1, Option.map_some]
      rw [put_comm q2]
      exact e3 v h' hi' hi hag
theorem last_swap {C : Cfg} {rec : Rec} {pc : PRec} {N : Nat} {ops : Array Oper} {S : List Nat} {nf : Nat → Bool} {o : Oper} {l1 l2 : List Nat} {env : Env} {h : Heap} {K : Env → Heap → Option R} {r : R} (hcg : ∀ (env' env1 : Env) (h1 : Heap) (K1 : AV → Heap → Option R), (∀ x ∈ o.op.operands, ev env1 x = ev env' x) → stepK C rec pc false env1 h1 o.op K1 = stepK C rec pc false env' h1 o.op K1)
    (hq : ∀ y ∈ l2, ∃ o', ops[y]? = some o' ∧ loudOp C o'.op = false ∧ nf y = true ∧ (∀ d, o.dst = some d → d ∉ o'.looksAt ops) ∧ (∀ d, o.dst = some d → o'.dst ≠ some d) ∧ ∀ d, o'.dst = some d → d ∉ o.looksAt ops)
    (hk : aopsI C rec pc N ops S nf (l1 ++ l2) env h (fun env' h' => lastK C rec pc N S o env' h' K) = some r) :
    dstOk N o = true ∧ o.guard = none ∧ aopsI C rec pc N ops S nf l1 env h (fun env1 h1 => stepK C rec pc false env1 h1 o.op fun v h' => cnd (S.all (sameAt h1 h') = true) (aopsI C rec pc N ops S nf l2 (env1.put o.dst v) h' K) none) = some r := by
  rw [aopsI_fold, List.foldlM_append] at hk
  rw [aopsI_fold]
  cases h1 : l1.foldlM (fun s i => fstep C rec pc N ops S nf i s) (env, h) with
  | none => rw [h1] at hk; cases hk
  | some s1 =>
    rw [h1] at hk
    have hk : (l2.foldlM (fun s i => fstep C rec pc N ops S nf i s) s1).bind (fun s => lastK C rec pc N S o s.1 s.2 K) = some r := hk
    cases h2 : l2.foldlM (fun s i => fstep C rec pc N ops S nf i s) s1 with
    | none => rw [h2] at hk; cases hk
    | some s2 =>
      rw [h2] at hk
      simp only [Option.bind_some] at hk
      obtain ⟨e1, e2, e3⟩ := quiet_fold C rec pc N ops S nf o l2 s1.1 s1.2 s2 hq h2
      unfold lastK at hk
      simp only [cnd_eq] at hk
      obtain ⟨⟨hd, hg⟩, hk⟩ := ite_some hk
      refine ⟨hd, hg, ?_⟩
      simp only [Option.bind_some]
      rw [e1, hcg s1.1 s2.1 _ _ (looks_ev ops o e2)] at hk
      rw [← hk]
      congr 1
      funext v h'
      simp only [cnd_eq]
      by_cases hs : S.all (sameAt s1.2 h') = true
      · rw [if_pos hs, if_pos hs, aopsI_fold]
        have hall := List.all_eq_true.1 hs
        have hi' : insideS S h' = true := by
          unfold insideS
          rw [List.all_eq_true]
          intro i hi
          simpa using (sameAt_eq (hall i hi)).2
        have hi : insideS S s1.2 = true := by
          unfold insideS
          rw [List.all_eq_true]
          intro i hi
          have h3 := sameAt_eq (hall i hi)
          rw [List.getElem?_eq_getElem h3.2] at h3
          simpa using (List.getElem?_eq_some_iff.1 h3.1.symm).1
        rw [e3 v h' hi' hi fun i hi => (sameAt_eq (hall i hi)).1]
        rfl
      · rw [if_neg hs, if_neg hs]

theorem pw_of {Q : Nat → Nat → Prop} : ∀ (l : List Nat), (∀ a x b y, l = a ++ x :: b → y ∈ b → Q x y) → l.Pairwise Q
  | [], _ => .nil
  | z :: l, hh => List.pairwise_cons.2 ⟨fun y hy => hh [] z l y rfl hy, pw_of l fun a x b y e hy => hh (z :: a) x b y (by rw [e]; rfl) hy⟩
theorem pw_use {Q : Nat → Nat → Prop} {l a b : List Nat} {x y : Nat} (hp : l.Pairwise Q) (e : l = a ++ x :: b) (hy : y ∈ b) : Q x y := by
  subst e
  rw [List.pairwise_append] at hp
  exact (List.pairwise_cons.1 hp.2.1).1 y hy

/-- A run in another order. -/
theorem sort_to {σ : Type} (f : Nat → σ → Option σ) (m : Nat) (T l : List Nat) (hT : T.Perm (List.range m)) (hn : l.Nodup) (hm : ∀ i, i ∈ l ↔ i < m)
    (hc : ∀ l1 x l2 y, l = l1 ++ x :: l2 → y ∈ l2 → T.idxOf y < T.idxOf x → ∀ s, (f x s).bind (f y) = (f y s).bind (f x)) (s : σ) :
    l.foldlM (fun s i => f i s) s = T.foldlM (fun s i => f i s) s := by
  have hTn : T.Nodup := hT.nodup_iff.2 List.nodup_range
  have hTl : T.length = m := by rw [hT.length_eq, List.length_range]
  have hTm : ∀ i, i ∈ T ↔ i < m := fun i => by rw [hT.mem_iff, List.mem_range]
  have hget : ∀ x, x < m → T.getD (T.idxOf x) 0 = x := fun x hx => by
    have hlt := List.idxOf_lt_length_of_mem ((hTm x).2 hx)
    rw [List.getD_eq_getElem?_getD, List.getElem?_eq_getElem hlt, Option.getD_some]
    exact List.getElem_idxOf hlt
  have hidx : ∀ k, k < m → T.idxOf (T.getD k 0) = k := fun k hk => by
    rw [List.getD_eq_getElem?_getD, List.getElem?_eq_getElem (by omega), Option.getD_some]
    exact hTn.idxOf_getElem k (by omega)
  have key := sort_run (fun k => f (T.getD k 0)) m (l.map T.idxOf) ?_ ?_ ?_ s
  · rw [List.foldlM_map] at key
    have e1 : ∀ (q : List Nat), (∀ i ∈ q, i < m) → ∀ s, q.foldlM (fun s i => f (T.getD (T.idxOf i) 0) s) s = q.foldlM (fun s i => f i s) s := by
      intro q
      induction q with
      | nil => intro _ s; rfl
      | cons x q ih =>
        intro hq s
        rw [List.foldlM_cons, List.foldlM_cons, hget x (hq x (by simp))]
        congr 1
        funext s'
        exact ih (fun i hi => hq i (by simp [hi])) s'
    rw [e1 l (fun i hi => (hm i).1 hi)] at key
    rw [key]
    have e2 : T = (List.range m).map fun k => T.getD k 0 := by
      apply List.ext_getElem?
      intro k
      rw [List.getElem?_map]
      by_cases hk : k < m
      · rw [List.getElem?_range hk, List.getElem?_eq_getElem (by omega), Option.map_some, List.getD_eq_getElem?_getD, List.getElem?_eq_getElem (by omega), Option.getD_some]
      · rw [List.getElem?_eq_none (by omega), List.getElem?_eq_none (by simp; omega), Option.map_none]
    conv => rhs; rw [e2]
    rw [List.foldlM_map]
  · rw [List.nodup_iff_pairwise_ne, List.pairwise_map]
    refine (List.nodup_iff_pairwise_ne.1 hn).imp_of_mem fun {a b} ha hb hab e => hab ?_
    rw [← hget a ((hm a).1 ha), ← hget b ((hm b).1 hb), e]
  · intro k
    rw [List.mem_map]
    constructor
    · rintro ⟨x, hx, rfl⟩
      have := List.idxOf_lt_length_of_mem ((hTm x).2 ((hm x).1 hx))
      omega
    · intro hk
      refine ⟨T.getD k 0, (hm _).2 ((hTm _).1 ?_), hidx k hk⟩
      rw [List.getD_eq_getElem?_getD, List.getElem?_eq_getElem (by omega), Option.getD_some]
      exact List.getElem_mem _
  · intro l1 x l2 y e hy hlt s
    obtain ⟨a1, a2, rfl, rfl, e2⟩ := List.map_eq_append_iff.1 e
    obtain ⟨z, b2, rfl, rfl, rfl⟩ := List.map_eq_cons_iff.1 e2
    obtain ⟨w, hw, rfl⟩ := List.mem_map.1 hy
    have hz := (hm z).1 (by simp)
    have hwm := (hm w).1 (by simp [hw])
    simp only [hget z hz, hget w hwm]
    exact hc a1 z b2 w rfl hw hlt s

theorem ord_at {b : List Nat} : ∀ {T : List Nat} {x y : Nat}, ordOk b T = true → x ∈ T → y ∈ T → T.idxOf y < T.idxOf x → ¬ (b.getD y 0).testBit x = true
  | [], _, _, _, hx, _, _ => by cases hx
  | z :: T, x, y, ho, hx, hy, hlt => by
    simp only [ordOk, Bool.and_eq_true, List.all_eq_true, Bool.not_eq_true'] at ho
    by_cases hyz : z = y
    · subst hyz
      rcases List.mem_cons.1 hx with rfl | hx
      · omega
      · rw [ho.1 x hx]; exact Bool.false_ne_true
    · by_cases hxz : z = x
      · subst hxz
        rw [List.idxOf_cons_self] at hlt
        omega
      · have e1 : (z :: T).idxOf y = T.idxOf y + 1 := by rw [List.idxOf_cons, beq_false_of_ne hyz]; rfl
        have e2 : (z :: T).idxOf x = T.idxOf x + 1 := by rw [List.idxOf_cons, beq_false_of_ne hxz]; rfl
        rw [e1, e2] at hlt
        refine ord_at ho.2 ?_ ?_ (by omega)
        · exact (List.mem_cons.1 hx).resolve_left fun e => hxz e.symm
        · exact (List.mem_cons.1 hy).resolve_left fun e => hyz e.symm
theorem idx_before {l l1 l2 : List Nat} {x y : Nat} (e : l = l1 ++ x :: l2) (hn : l.Nodup) (hy : y ∈ l2) : l.idxOf x < l.idxOf y := by
  subst e
  rw [List.nodup_append, List.nodup_cons] at hn
  obtain ⟨n1, ⟨n2, n3⟩, n4⟩ := hn
  have hx1 : x ∉ l1 := fun h => n4 x h x (by simp) rfl
  have hy1 : y ∉ l1 := fun h => n4 y h y (by simp [hy]) rfl
  have hxy : x ≠ y := fun h => n2 (h ▸ hy)
  have e1 : (x :: l2).idxOf y = l2.idxOf y + 1 := by rw [List.idxOf_cons, beq_false_of_ne hxy]; rfl
  rw [List.idxOf_append, List.idxOf_append, if_neg hx1, if_neg hy1, List.idxOf_cons_self, e1]
  omega
theorem region_pair_ok {C : Cfg} {rec : Rec} {pc : PRec} (hrec : RecOk C.P rec) (hpc : PRecOk C.P pc) (hmix : C.P.follows .mixedOrders = true) {id : Nat} {ops : Array Oper} {K : Env → Heap → Option R} {r : R} {S : List Nat} {m i0 j0 : Nat}
    (hp : pairOk C ops (masks ops) m i0 j0 = true) (hff : forcedFrom (masks ops) ops.size m = true) (hed : edgesOk ops = true) (hle : m ≤ ops.size)
    (hA : aopsI C rec pc N ops S (needFree C ops (masks ops) m) (List.range m) env h (fun env' h' => aopsK C rec pc N false ops (ops.toList.drop m) env' h' K) = some r)
    (hB : aopsI C rec pc N ops S (needFree C ops (masks ops) m) (order2 (masks ops) m i0 j0) env h (fun env' h' => aopsK C rec pc N false ops (ops.toList.drop m) env' h' K) = some r)
    (hr : Rel B N κ env h a w) (Q : Exit → Act → World → Prop) (n : Nat) (ro : Option Nat)
    (hn : NextOps B N κ h w false ops.toList env a K r fun a' w' => Q .normal a' w') : (Code.region id ops true).wpIn (Fr ro) n C.P Q a w := by
  unfold pairOk at hp
  simp only [Bool.and_eq_true, decide_eq_true_eq] at hp
  obtain ⟨hdo, hperm, hord, hidx⟩ := hp
  have hT := List.isPerm_iff.1 hperm
  generalize order2 (masks ops) m i0 j0 = T at *
  refine wpIn_region_draw fun t => ?_
  have hsch : Region.schedule (C.P.follows .mixedOrders) ops t = Region.linearise .any ops t := by
    simp only [Region.schedule, hmix, Bool.true_or, if_true]
  rw [hsch]
  obtain ⟨p1, p2, p3, p4⟩ := sched_props hed (linearise_sched ops t) (fun i hi => by cases hi)
  obtain ⟨lp, hL, hlpn, hlpm⟩ := forced_tail (n := m) (ops.size - m) (Region.linearise .any ops t) p1 (fun i => by
    constructor
    · intro hi; have := (p2 i hi).2; omega
    · intro hi; exact (p3 i (by omega)).resolve_left (by simp)) (fun l1 x l2 e hx y hy => by
      have hxs : x < ops.size := (p2 x (by rw [e]; simp)).2
      have h1 := (List.all_eq_true.1 hff) x (List.mem_range.2 hxs)
      have h2 : (masks ops).getD x 0 = 2 ^ x - 1 := by
        simp only [Bool.or_eq_true, decide_eq_true_eq, beq_iff_eq] at h1
        exact h1.resolve_left (by omega)
      refine (p4 l1 x l2 e y ?_).resolve_left (by simp)
      rw [h2, Nat.testBit_two_pow_sub_one]
      simpa using hy)
  rw [hL]
  let g : Nat → Oper := fun i => ops.getD i default
  have hlt : ∀ i ∈ lp, i < ops.size := fun i hi => by have := (hlpm i).1 hi; omega
  -- pairs whose order is open
  have hpair : ∀ x y, x < m → y < x → ¬ ((masks ops).getD x 0).testBit y = true → ¬ (y = i0 ∧ x = j0) →
      (loudAt C ops y && loudAt C ops x) = false ∧ (∀ d, (g y).dst = some d → d ∉ (g x).looksAt ops) ∧ (∀ d, (g y).dst = some d → (g x).dst ≠ some d) ∧ (∀ d, (g x).dst = some d → d ∉ (g y).looksAt ops) ∧
      (loudAt C ops x = true → needFree C ops (masks ops) m y = true) ∧ (loudAt C ops y = true → needFree C ops (masks ops) m x = true) := fun x y hx hlt2 h2 hne => by
    have h1 := (List.all_eq_true.1 ((List.all_eq_true.1 hdo) x (List.mem_range.2 hx))) y (List.mem_range.2 hlt2)
    have ex := getD_oper (show x < ops.size by omega)
    have ey := getD_oper (show y < ops.size by omega)
    rw [ex, ey] at h1
    simp only [Bool.or_eq_true, Bool.and_eq_true, Bool.not_eq_true', beq_iff_eq] at h1
    obtain ⟨hnl, hap⟩ := h1.resolve_left (fun h => h.elim h2 hne)
    obtain ⟨q1, q2, q3⟩ := Oper.apart_spec hap
    have hun : unord (masks ops) x y = true := by unfold unord; rw [if_neg (by omega)]; simpa using h2
    have hun' : unord (masks ops) y x = true := by unfold unord; rw [if_pos hlt2]; simpa using h2
    refine ⟨hnl, q1, q2, q3, fun hlx => ?_, fun hly => ?_⟩
    · unfold needFree
      refine List.any_eq_true.2 ⟨x, List.mem_range.2 hx, ?_⟩
      simp only [Bool.and_eq_true, bne_iff_ne]
      exact ⟨⟨hlx, by omega⟩, hun'⟩
    · unfold needFree
      refine List.any_eq_true.2 ⟨y, List.mem_range.2 (by omega), ?_⟩
      simp only [Bool.and_eq_true, bne_iff_ne]
      exact ⟨⟨hly, by omega⟩, hun⟩
  have hopen : lp.Pairwise fun x y => y < x → ¬ ((masks ops).getD x 0).testBit y = true := pw_of lp fun l1 x l2 y e hy hlt2 hb => by
    have := (p4 l1 x (l2 ++ List.range' m (ops.size - m)) (by rw [hL, e]; simp) y hb).resolve_left (by simp)
    rw [e, List.nodup_append] at hlpn
    exact hlpn.2.2 y this y (by simp [hy]) rfl
  have hcom : ∀ x y, x < m → y < x → ¬ ((masks ops).getD x 0).testBit y = true → ¬ (y = i0 ∧ x = j0) → ∀ s : Env × Heap, (fstep C rec pc N ops S (needFree C ops (masks ops) m) x s).bind (fstep C rec pc N ops S (needFree C ops (masks ops) m) y) = (fstep C rec pc N ops S (needFree C ops (masks ops) m) y s).bind (fstep C rec pc N ops S (needFree C ops (masks ops) m) x) := fun x y hx hlt2 h2 hne s => by
    obtain ⟨hnl, q1, q2, q3, n1, n2⟩ := hpair x y hx hlt2 h2 hne
    have ex := getD_oper (show x < ops.size by omega)
    have ey := getD_oper (show y < ops.size by omega)
    have lx : loudAt C ops x = (loudOp C (g x).op || heapCall C (g x).op) := by unfold loudAt; rw [ex]
    have ly : loudAt C ops y = (loudOp C (g y).op || heapCall C (g y).op) := by unfold loudAt; rw [ey]
    cases hlx : loudOp C (g x).op with
    | true =>
      have hlx' : loudAt C ops x = true := by rw [lx, hlx]; rfl
      have hly : loudOp C (g y).op = false := by
        rw [hlx', Bool.and_true, ly, Bool.or_eq_false_iff] at hnl
        exact hnl.1
      exact loud_comm C rec pc N ops S _ ex ey q3 (fun d hd hd2 => q2 d hd2 hd) q1 hlx hly (n1 hlx') s
    | false =>
      cases hly : loudOp C (g y).op with
      | true => exact (loud_comm C rec pc N ops S _ ey ex q1 q2 q3 hly hlx (n2 (by rw [ly, hly]; rfl)) s).symm
      | false => exact (quiet_comm C rec pc N ops S _ ey ex q1 q2 q3 hly hlx s).symm
  have hsub : ∀ (l : List Nat), (∀ i ∈ l, i < ops.size) → ∀ i, i ∉ ops.toList.filterMap (·.dst) → i ∉ (l.map g).filterMap (·.dst) := fun l hl i hni hm => hni (by
    rw [List.mem_filterMap] at hm ⊢
    obtain ⟨o, ho, hd⟩ := hm
    obtain ⟨x, hx, rfl⟩ := List.mem_map.1 ho
    refine ⟨g x, ?_, hd⟩
    have := getD_oper (hl x hx)
    exact List.mem_of_getElem? (i := x) (by rw [Array.getElem?_toList]; exact this))
  -- the forced end
  have hrest : ∀ env1 h1 κ1 a1 w1, aopsK C rec pc N false ops (ops.toList.drop m) env1 h1 K = some r → Rel B N κ1 env1 h1 a1 w1 → Ext κ h w κ1 h1 w1 → (∀ i, i ∉ ops.toList.filterMap (·.dst) → env1 i = env i) → a1.defers = a.defers →
      wpOpsIn (Fr ro) n C.P ops Q (List.range' m (ops.size - m)) a1 w1 := fun env1 h1 κ1 a1 w1 k1 k2 k3 k4 k5 => by
    have := aops_ok hrec hpc ops Q n ro [] (ops.toList.drop m) (List.range' m (ops.size - m)) (by simp) (fun j i o hj ho => by
      have hjl : j < ops.size - m := by simpa using lt_of_get hj
      rw [List.getElem?_range' hjl] at hj
      cases hj
      rw [List.getElem?_drop] at ho
      simpa using ho) k1 k2 (fun env2 h2 κ2 a2 w2 j1 j2 j3 j4 j5 j6 => by
        refine hn env2 h2 κ2 a2 w2 j1 j2 (k3.trans j3) (fun i hni => ?_) (j5.trans k5) (fun e => by cases e)
        have hsub1 : i ∉ (ops.toList.drop m).filterMap (·.dst) := fun hm => hni (by
          rw [List.mem_filterMap] at hm ⊢
          obtain ⟨o, ho, hd⟩ := hm
          exact ⟨o, List.mem_of_mem_drop ho, hd⟩)
        exact (j4 i hsub1).trans (k4 i hni))
    simpa using this
  have hx0 := drew_ext hr.heap
  have hfinish : aopsI C rec pc N ops S (needFree C ops (masks ops) m) lp env h (fun env' h' => aopsK C rec pc N false ops (ops.toList.drop m) env' h' K) = some r → wpOpsIn (Fr ro) n C.P ops Q (lp ++ List.range' m (ops.size - m)) a { w with drawn := w.drawn + 1 } := fun hk2 => by
    refine aopsI_ok hrec hpc ops S _ Q n ro (List.range' m (ops.size - m)) lp hk2 (rel_drew hr) fun env1 h1 κ1 a1 w1 k1 k2 k3 k4 k5 k6 => ?_
    exact hrest env1 h1 κ1 a1 w1 k1 k2 (hx0.trans k3) (fun i hni => k4 i (hsub lp hlt i hni)) k5
  by_cases hcls : lp.idxOf i0 < lp.idxOf j0
  · have hrun : ∀ s : Env × Heap, lp.foldlM (fun s i => fstep C rec pc N ops S (needFree C ops (masks ops) m) i s) s = (List.range m).foldlM (fun s i => fstep C rec pc N ops S (needFree C ops (masks ops) m) i s) s := fun s =>
      sort_run (fun i s => fstep C rec pc N ops S (needFree C ops (masks ops) m) i s) m lp hlpn hlpm (fun b1 x b2 y e2 hy hlt2 s =>
        hcom x y ((hlpm x).1 (by rw [e2]; simp)) hlt2 (pw_use hopen e2 hy hlt2) (fun hh => by
          have := idx_before e2 hlpn hy
          rw [hh.1, hh.2] at this
          omega) s) s
    refine hfinish ?_
    rw [aopsI_fold] at hA ⊢
    rw [hrun]
    exact hA
  · have hrun : ∀ s : Env × Heap, lp.foldlM (fun s i => fstep C rec pc N ops S (needFree C ops (masks ops) m) i s) s = T.foldlM (fun s i => fstep C rec pc N ops S (needFree C ops (masks ops) m) i s) s := fun s =>
      sort_to (fun i s => fstep C rec pc N ops S (needFree C ops (masks ops) m) i s) m T lp hT hlpn hlpm (fun b1 x b2 y e2 hy hlt2 s => by
        have hx := (hlpm x).1 (by rw [e2]; simp)
        have hy' := (hlpm y).1 (by rw [e2]; simp [hy])
        have hib := idx_before e2 hlpn hy
        rcases Nat.lt_trichotomy y x with hyx | hyx | hyx
        · exact hcom x y hx hyx (pw_use hopen e2 hy hyx) (fun hh => by rw [hh.1, hh.2] at hlt2; omega) s
        · subst hyx; rfl
        · refine (hcom y x hy' hyx (ord_at hord (hT.mem_iff.2 (List.mem_range.2 hx)) (hT.mem_iff.2 (List.mem_range.2 hy')) hlt2) (fun hh => ?_) s).symm
          rw [hh.1, hh.2] at hib
          exact hcls hib) s
    refine hfinish ?_
    rw [aopsI_fold] at hB ⊢
    rw [hrun]
    exact hB

theorem foldlM_skip {σ : Type} (f : Nat → σ → Option σ) (p : Nat → Bool) : ∀ (l : List Nat) (s : σ), l.foldlM (fun s i => if p i = true then f i s else some s) s = (l.filter p).foldlM (fun s i => f i s) s
  | [], s => rfl
  | x :: l, s => by
    by_cases hx : p x = true
    · rw [List.filter_cons_of_pos hx, List.foldlM_cons, List.foldlM_cons, if_pos hx]
      congr 1
      funext s'
      exact foldlM_skip f p l s'
    · rw [List.filter_cons_of_neg hx, List.foldlM_cons, if_neg hx]
      exact foldlM_skip f p l s
theorem seg_sort {σ : Type} (f : Nat → σ → Option σ) (p : Nat → Bool) (lo hi : Nat) (lp : List Nat) (hn : lp.Nodup) (hm : ∀ i, i ∈ lp ↔ lo ≤ i ∧ i < hi) (hle : lo ≤ hi) (hp : ∀ i, p i = true → lo ≤ i)
    (hcom : lp.Pairwise fun x y => y < x → p x = true → p y = true → ∀ s, (f x s).bind (f y) = (f y s).bind (f x)) (s : σ) :
    (lp.filter p).foldlM (fun s i => f i s) s = ((List.range hi).filter p).foldlM (fun s i => f i s) s := by
  have hf0 : (List.range lo).filter p = [] := by
    rw [List.filter_eq_nil_iff]
    intro i hi
    have := List.mem_range.1 hi
    intro h
    have := hp i h
    omega
  have e : lp.filter p = (List.range lo ++ lp).filter p := by rw [List.filter_append, hf0, List.nil_append]
  rw [e, ← foldlM_skip, ← foldlM_skip]
  have hpw : (List.range lo ++ lp).Pairwise fun x y => y < x → ∀ s, (if p x = true then f x s else some s).bind (fun s => if p y = true then f y s else some s) = (if p y = true then f y s else some s).bind (fun s => if p x = true then f x s else some s) := by
    have htriv : ∀ x y, ¬ (p x = true ∧ p y = true) → ∀ s, (if p x = true then f x s else some s).bind (fun s => if p y = true then f y s else some s) = (if p y = true then f y s else some s).bind (fun s => if p x = true then f x s else some s) := fun x y h s => by
      by_cases hx : p x = true
      · by_cases hy : p y = true
        · exact absurd ⟨hx, hy⟩ h
        · simp only [hx, hy, if_true, Bool.false_eq_true, if_false, Option.bind_some]
          cases f x s <;> rfl
      · simp only [hx, Bool.false_eq_true, if_false, Option.bind_some]
        cases (if p y = true then f y s else some s) <;> rfl
    rw [List.pairwise_append]
    refine ⟨?_, ?_, ?_⟩
    · refine List.Pairwise.imp_of_mem (R := fun _ _ => True) (fun {x y} hx hy _ _ => htriv x y fun h => ?_) (List.pairwise_of_forall fun _ _ => trivial)
      have := hp x h.1
      have := List.mem_range.1 hx
      omega
    · refine hcom.imp fun {x y} h hlt => ?_
      by_cases hb : p x = true ∧ p y = true
      · intro s
        have := h hlt hb.1 hb.2 s
        simp only [hb.1, hb.2, if_true]
        exact this
      · exact htriv x y hb
    · intro x hx y hy _
      refine htriv x y fun h => ?_
      have := hp x h.1
      have := List.mem_range.1 hx
      omega
  refine sort_run (fun i s => if p i = true then f i s else some s) hi (List.range lo ++ lp) ?_ ?_ (fun l1 x l2 y e hy hlt s => pw_use hpw e hy hlt s) s
  · rw [List.nodup_append]
    refine ⟨List.nodup_range, hn, fun x hx y hy h => ?_⟩
    have := List.mem_range.1 hx
    have := (hm y).1 hy
    omega
  · intro i
    rw [List.mem_append, List.mem_range, hm]
    omega
theorem cndO_some {R : Type} {x y : AObj} {a : Option R} {r : R} (h : cndO x y a = some r) : x = y ∧ a = some r := by
  unfold cndO at h
  by_cases hxy : x = y
  · rw [if_pos hxy] at h
    exact ⟨hxy, h⟩
  · rw [if_neg hxy] at h
    cases h
theorem cndO_self {R : Type} (x : AObj) (a : Option R) : cndO x x a = a := by
  unfold cndO
  exact if_pos rfl
theorem sameO_some {R : Type} {h h' : Heap} {i : Nat} {a : Option R} {r : R} (hs : sameO h h' i a = some r) : (h'[i]? = h[i]? ∧ i < h'.length) ∧ a = some r ∧ ∀ b : Option R, sameO h h' i b = b := by
  unfold sameO at hs
  split at hs
  · rename_i x y h1 h2
    obtain ⟨e, h3⟩ := cndO_some hs
    subst e
    refine ⟨⟨h2.trans h1.symm, (List.getElem?_eq_some_iff.1 h2).1⟩, h3, fun b => ?_⟩
    unfold sameO
    rw [h1, h2]
    exact cndO_self x b
  · cases hs
theorem sameAll_some {R : Type} {h h' : Heap} : ∀ {S : List Nat} {a : Option R} {r : R}, sameAll h h' S a = some r → (∀ i ∈ S, h'[i]? = h[i]? ∧ i < h'.length) ∧ a = some r ∧ ∀ b : Option R, sameAll h h' S b = b
  | [], a, r, hs => ⟨fun _ hi => (by cases hi), hs, fun _ => rfl⟩
  | i :: S, a, r, hs => by
    obtain ⟨h1, h2, h3⟩ := sameO_some hs
    obtain ⟨k1, k2, k3⟩ := sameAll_some h2
    refine ⟨fun j hj => ?_, k2, fun b => ?_⟩
    · rcases List.mem_cons.1 hj with rfl | hj
      · exact h1
      · exact k1 j hj
    · show sameO h h' i (sameAll h h' S b) = b
      rw [k3, h3]
theorem last_swapG {C : Cfg} {rec : Rec} {pc : PRec} {N : Nat} {ops : Array Oper} {S : List Nat} {nf : Nat → Bool} {o : Oper} {l1 l2 : List Nat} {env : Env} {h : Heap} {K : Env → Heap → Option R} {r : R} (hcg : ∀ (env' env1 : Env) (h1 : Heap) (K1 : AV → Heap → Option R), (∀ x ∈ o.op.operands, ev env1 x = ev env' x) → stepK C rec pc false env1 h1 o.op K1 = stepK C rec pc false env' h1 o.op K1)
    (hq : ∀ y ∈ l2, ∃ o', ops[y]? = some o' ∧ loudOp C o'.op = false ∧ nf y = true ∧ (∀ d, o.dst = some d → d ∉ o'.looksAt ops) ∧ (∀ d, o.dst = some d → o'.dst ≠ some d) ∧ ∀ d, o'.dst = some d → d ∉ o.looksAt ops)
    (hk : aopsI C rec pc N ops S nf (l1 ++ l2) env h (fun env' h' => lastG C rec pc N ops S o env' h' K) = some r) :
    dstOk N o = true ∧ aopsI C rec pc N ops S nf l1 env h (fun env1 h1 => guardK ops o env1 (fun env1 => stepK C rec pc false env1 h1 o.op fun v h' => sameAll h1 h' S (aopsI C rec pc N ops S nf l2 (env1.put o.dst v) h' K))
      (fun env1 => cnd (insideS S h1 = true) (aopsI C rec pc N ops S nf l2 (env1.put o.dst (.tuple [])) h1 K) none)) = some r := by
  rw [aopsI_fold, List.foldlM_append] at hk
  rw [aopsI_fold]
  cases h1 : l1.foldlM (fun s i => fstep C rec pc N ops S nf i s) (env, h) with
  | none => rw [h1] at hk; cases hk
  | some s1 =>
    rw [h1] at hk
    have hk : (l2.foldlM (fun s i => fstep C rec pc N ops S nf i s) s1).bind (fun s => lastG C rec pc N ops S o s.1 s.2 K) = some r := hk
    cases h2 : l2.foldlM (fun s i => fstep C rec pc N ops S nf i s) s1 with
    | none => rw [h2] at hk; cases hk
    | some s2 =>
      rw [h2] at hk
      simp only [Option.bind_some] at hk
      obtain ⟨e1, e2, e3⟩ := quiet_fold C rec pc N ops S nf o l2 s1.1 s1.2 s2 hq h2
      unfold lastG at hk
      simp only [cnd_eq] at hk
      obtain ⟨hd, hk⟩ := ite_some hk
      refine ⟨hd, ?_⟩
      simp only [Option.bind_some]
      rw [guard_eq] at hk ⊢
      rw [gval_congr ops o e2] at hk
      cases hgv : gval ops o s1.1 with
      | none => rw [hgv] at hk; cases hk
      | some bb =>
        rw [hgv] at hk
        cases bb with
        | true =>
          simp only [Option.bind_some, if_true] at hk ⊢
          rw [e1, hcg s1.1 s2.1 _ _ (looks_ev ops o e2)] at hk
          rw [← hk]
          congr 1
          funext v h'
          have key : ∀ q, sameAll s1.2 h' S (aopsI C rec pc N ops S nf l2 (s1.1.put o.dst v) h' K) = some q ↔ sameAll s1.2 h' S (K (s2.1.put o.dst v) h') = some q := by
            have hback : (∀ i ∈ S, h'[i]? = s1.2[i]? ∧ i < h'.length) → aopsI C rec pc N ops S nf l2 (s1.1.put o.dst v) h' K = K (s2.1.put o.dst v) h' := fun hall => by
              have hi' : insideS S h' = true := by
                unfold insideS
                rw [List.all_eq_true]
                intro i hi
                simpa using (hall i hi).2
              have hi : insideS S s1.2 = true := by
                unfold insideS
                rw [List.all_eq_true]
                intro i hi
                have h3 := hall i hi
                rw [List.getElem?_eq_getElem h3.2] at h3
                simpa using (List.getElem?_eq_some_iff.1 h3.1.symm).1
              rw [aopsI_fold, e3 v h' hi' hi fun i hi => (hall i hi).1]
              rfl
            intro q
            constructor
            · intro hs
              obtain ⟨k1, k2, k3⟩ := sameAll_some hs
              rw [k3, ← hback k1]
              exact k2
            · intro hs
              obtain ⟨k1, k2, k3⟩ := sameAll_some hs
              rw [k3, hback k1]
              exact k2
          cases hA : sameAll s1.2 h' S (aopsI C rec pc N ops S nf l2 (s1.1.put o.dst v) h' K) with
          | some q => exact ((key q).1 hA).symm
          | none =>
            cases hB : sameAll s1.2 h' S (K (s2.1.put o.dst v) h') with
            | none => rfl
            | some q => rw [(key q).2 hB] at hA; cases hA
        | false =>
          simp only [Option.bind_some, Bool.false_eq_true, if_false, cnd_eq] at hk ⊢
          obtain ⟨hin, hk⟩ := ite_some hk
          rw [e1] at hin hk
          rw [if_pos hin, aopsI_fold, e3 (.tuple []) s1.2 hin hin fun _ _ => rfl]
          exact hk
theorem seg_ok {C : Cfg} {rec : Rec} {pc : PRec} (hrec : RecOk C.P rec) (hpc : PRecOk C.P pc) {ops : Array Oper} {K : Env → Heap → Option R} {r : R} {lo hi : Nat} (hle : hi ≤ ops.size) (hlo : lo ≤ hi)
    (lp : List Nat) (hlpn : lp.Nodup) (hlpm : ∀ i, i ∈ lp ↔ lo ≤ i ∧ i < hi) (hopen : lp.Pairwise fun x y => y < x → ¬ ((masks ops).getD x 0).testBit y = true)
    (hk : segK C rec pc N ops (masks ops) lo hi env h K = some r) (hr : Rel B N κ env h a w) (Q : Exit → Act → World → Prop) (n : Nat) (ro : Option Nat) (rest : List Nat)
    (hcont : ∀ env1 h1 κ1 a1 w1, K env1 h1 = some r → Rel B N κ1 env1 h1 a1 w1 → Ext κ h w κ1 h1 w1 → (∀ i, i ∉ ops.toList.filterMap (·.dst) → env1 i = env i) → a1.defers = a.defers → wpOpsIn (Fr ro) n C.P ops Q rest a1 w1) :
    wpOpsIn (Fr ro) n C.P ops Q (lp ++ rest) a w := by
  let g : Nat → Oper := fun i => ops.getD i default
  have hlt : ∀ i ∈ lp, i < ops.size := fun i hi => by have := (hlpm i).1 hi; omega
  have hsub : ∀ (l : List Nat), (∀ i ∈ l, i < ops.size) → ∀ i, i ∉ ops.toList.filterMap (·.dst) → i ∉ (l.map g).filterMap (·.dst) := fun l hl i hni hm => hni (by
    rw [List.mem_filterMap] at hm ⊢
    obtain ⟨o, ho, hd⟩ := hm
    obtain ⟨x, hx, rfl⟩ := List.mem_map.1 ho
    refine ⟨g x, ?_, hd⟩
    have := getD_oper (hl x hx)
    exact List.mem_of_getElem? (i := x) (by rw [Array.getElem?_toList]; exact this))
  -- pairs whose order is open
  have hpair : ∀ (m0 : Option Nat), segOk C ops (masks ops) lo hi m0 = true → ∀ x y, x < hi → lo ≤ y → y < x → ¬ ((masks ops).getD x 0).testBit y = true →
      (loud3 C ops m0 y && loud3 C ops m0 x) = false ∧ (∀ d, (g y).dst = some d → d ∉ (g x).looksAt ops) ∧ (∀ d, (g y).dst = some d → (g x).dst ≠ some d) ∧ (∀ d, (g x).dst = some d → d ∉ (g y).looksAt ops) ∧
      (loud3 C ops m0 x = true → nf3 C ops (masks ops) lo hi m0 y = true) ∧ (loud3 C ops m0 y = true → nf3 C ops (masks ops) lo hi m0 x = true) := fun m0 hso x y hx hloy hlt2 h2 => by
    unfold segOk at hso
    rw [Bool.and_eq_true] at hso
    have h0 := (List.all_eq_true.1 hso.1) x (List.mem_range.2 hx)
    have h1 : ((List.range x).all fun i => decide (i < lo) || ((masks ops).getD x 0).testBit i || (!(loud3 C ops m0 i && loud3 C ops m0 x) && (match ops[i]?, ops[x]? with
      | some x, some y => x.apart ops y
      | _, _ => false))) = true := by
      simp only [Bool.or_eq_true, decide_eq_true_eq] at h0
      have := h0.resolve_left (by omega)
      rw [List.all_eq_true] at this ⊢
      intro i hi
      rw [Bool.or_assoc]
      exact this i hi
    have h1 := (List.all_eq_true.1 h1) y (List.mem_range.2 hlt2)
    have ex := getD_oper (show x < ops.size by omega)
    have ey := getD_oper (show y < ops.size by omega)
    rw [ex, ey] at h1
    simp only [Bool.or_eq_true, Bool.and_eq_true, Bool.not_eq_true', decide_eq_true_eq] at h1
    obtain ⟨hnl, hap⟩ := h1.resolve_left (fun q => q.elim (fun q => by omega) h2)
    obtain ⟨q1, q2, q3⟩ := Oper.apart_spec hap
    have hun : unord (masks ops) x y = true := by unfold unord; rw [if_neg (by omega)]; simpa using h2
    have hun' : unord (masks ops) y x = true := by unfold unord; rw [if_pos hlt2]; simpa using h2
    refine ⟨hnl, q1, q2, q3, fun hlx => ?_, fun hly => ?_⟩
    · unfold nf3
      refine List.any_eq_true.2 ⟨x, List.mem_range.2 hx, ?_⟩
      simp only [Bool.and_eq_true, bne_iff_ne, decide_eq_true_eq]
      exact ⟨by omega, ⟨hlx, by omega⟩, hun'⟩
    · unfold nf3
      refine List.any_eq_true.2 ⟨y, List.mem_range.2 (by omega), ?_⟩
      simp only [Bool.and_eq_true, bne_iff_ne, decide_eq_true_eq]
      exact ⟨by omega, ⟨hly, by omega⟩, hun⟩
  have hcom : ∀ (m0 : Option Nat) (S : List Nat), segOk C ops (masks ops) lo hi m0 = true → ∀ x y, x < hi → lo ≤ y → y < x → ¬ ((masks ops).getD x 0).testBit y = true → ∀ s : Env × Heap, (fstep C rec pc N ops S (nf3 C ops (masks ops) lo hi m0) x s).bind (fstep C rec pc N ops S (nf3 C ops (masks ops) lo hi m0) y) = (fstep C rec pc N ops S (nf3 C ops (masks ops) lo hi m0) y s).bind (fstep C rec pc N ops S (nf3 C ops (masks ops) lo hi m0) x) := fun m0 S hso x y hx hloy hlt2 h2 s => by
    obtain ⟨hnl, q1, q2, q3, n1, n2⟩ := hpair m0 hso x y hx hloy hlt2 h2
    have ex := getD_oper (show x < ops.size by omega)
    have ey := getD_oper (show y < ops.size by omega)
    have l3 : ∀ z, z < ops.size → loudOp C (g z).op = true → loud3 C ops m0 z = true := fun z hz hl => by
      unfold loud3 loudAt
      rw [getD_oper hz]
      have hl' : loudOp C (ops.getD z default).op = true := hl
      show ((loudOp C (ops.getD z default).op || heapCall C (ops.getD z default).op) || _) = true
      rw [hl']
      rfl
    cases hlx : loudOp C (g x).op with
    | true =>
      have hlx' := l3 x (by omega) hlx
      have hly : loudOp C (g y).op = false := by
        cases hly : loudOp C (g y).op with
        | false => rfl
        | true =>
          rw [hlx', l3 y (by omega) hly] at hnl
          cases hnl
      exact loud_comm C rec pc N ops S _ ex ey q3 (fun d hd hd2 => q2 d hd2 hd) q1 hlx hly (n1 hlx') s
    | false =>
      cases hly : loudOp C (g y).op with
      | true => exact (loud_comm C rec pc N ops S _ ey ex q1 q2 q3 hly hlx (n2 (l3 y (by omega) hly)) s).symm
      | false => exact (quiet_comm C rec pc N ops S _ ey ex q1 q2 q3 hly hlx s).symm
  unfold segK at hk
  split at hk
  · rename_i m0 hmc
    split at hk
    · rename_i o ho
      simp only [cnd_eq] at hk
      obtain ⟨⟨hso, hcv⟩, hk1⟩ := ite_some hk
      generalize looks ops (nf3 C ops (masks ops) lo hi (some m0)) hi env h = S at hk1
      have hso2 := hso
      unfold segOk at hso2
      simp only [Bool.and_eq_true, decide_eq_true_eq] at hso2
      obtain ⟨_, ⟨hm1, hm2⟩, hnone⟩ := hso2
      have hnone : ∀ j, lo ≤ j → j < hi → ¬ ((masks ops).getD j 0).testBit m0 = true := fun j hj1 hj2 => by
        have := (List.all_eq_true.1 hnone) j (List.mem_range.2 hj2)
        simp only [Bool.or_eq_true, decide_eq_true_eq] at this
        simpa using this.resolve_left (by omega)
      have hgo : g m0 = o := by
        have h1 := getD_oper (show m0 < ops.size by omega)
        rw [ho] at h1
        exact (Option.some.inj h1).symm
      obtain ⟨l1, l2, e⟩ := List.append_of_mem ((hlpm m0).2 ⟨hm1, hm2⟩)
      have hn' := hlpn
      rw [e, List.nodup_append, List.nodup_cons] at hn'
      obtain ⟨n1, ⟨n2, n3⟩, n4⟩ := hn'
      have hfil : lp.filter (fun i => decide (lo ≤ i) && i != m0) = l1 ++ l2 := by
        have hall : ∀ x ∈ lp, lo ≤ x := fun x hx => ((hlpm x).1 hx).1
        rw [e] at hall
        rw [e, List.filter_append, List.filter_cons_of_neg (by simp), List.filter_eq_self.2 (fun x hx => by have := n4 x hx m0 (by simp); have := hall x (by simp [hx]); simp [*]), List.filter_eq_self.2 (fun x hx => by
          have : x ≠ m0 := fun h => n2 (h ▸ hx)
          have := hall x (by simp [hx])
          simp [*])]
      have hrun : ∀ s : Env × Heap, (l1 ++ l2).foldlM (fun s i => fstep C rec pc N ops S (nf3 C ops (masks ops) lo hi (some m0)) i s) s = ((List.range hi).filter fun i => decide (lo ≤ i) && i != m0).foldlM (fun s i => fstep C rec pc N ops S (nf3 C ops (masks ops) lo hi (some m0)) i s) s := fun s => by
        rw [← hfil]
        refine seg_sort (fun i s => fstep C rec pc N ops S (nf3 C ops (masks ops) lo hi (some m0)) i s) _ lo hi lp hlpn hlpm hlo (fun i h => by simp only [Bool.and_eq_true, decide_eq_true_eq] at h; exact h.1) ?_ s
        refine hopen.imp_of_mem fun {x y} hx hy h hlt px py s => ?_
        exact hcom (some m0) S hso x y ((hlpm x).1 hx).2 ((hlpm y).1 hy).1 hlt (h hlt) s
      have hk2 : aopsI C rec pc N ops S (nf3 C ops (masks ops) lo hi (some m0)) (l1 ++ l2) env h (fun env' h' => lastG C rec pc N ops S o env' h' K) = some r := by
        rw [aopsI_fold] at hk1 ⊢
        rw [hrun]
        exact hk1
      have hlm : loud3 C ops (some m0) m0 = true := by unfold loud3; simp
      obtain ⟨hd, hk3⟩ := last_swapG (fun _ _ _ K1 hE => callV_congr C rec pc hcv hE K1) (fun y hy => by
        have hne : y ≠ m0 := fun h => n2 (h ▸ hy)
        obtain ⟨hy1, hy2⟩ := (hlpm y).1 (by rw [e]; simp [hy])
        have ey := getD_oper (show y < ops.size by omega)
        have hquiet : (loud3 C ops (some m0) y) = false → loudOp C (g y).op = false := fun hq => by
          unfold loud3 loudAt at hq
          rw [ey] at hq
          rw [Bool.or_eq_false_iff, Bool.or_eq_false_iff] at hq
          exact hq.1.1
        rcases Nat.lt_or_gt_of_ne hne with hlt3 | hlt3
        · have hno := pw_use hopen e hy hlt3
          obtain ⟨hnl, q1, q2, q3, f1, f2⟩ := hpair (some m0) hso m0 y hm2 hy1 hlt3 hno
          rw [hgo] at q1 q2 q3
          refine ⟨g y, ey, hquiet ?_, f1 hlm, q3, fun d hd hd2 => q2 d hd2 hd, q1⟩
          rw [hlm, Bool.and_true] at hnl
          exact hnl
        · have hno := hnone y hy1 hy2
          obtain ⟨hnl, q1, q2, q3, f1, f2⟩ := hpair (some m0) hso y m0 hy2 hm1 hlt3 hno
          rw [hgo] at q1 q2 q3
          refine ⟨g y, ey, hquiet ?_, f2 hlm, q1, q2, q3⟩
          rw [hlm, Bool.true_and] at hnl
          exact hnl) hk2
      have hl1lt : ∀ i ∈ l1, i < ops.size := fun i hi => hlt i (by rw [e]; simp [hi])
      have hl2lt : ∀ i ∈ l2, i < ops.size := fun i hi => hlt i (by rw [e]; simp [hi])
      have hdm : ∀ i, i ∉ ops.toList.filterMap (·.dst) → ∀ d, o.dst = some d → d ≠ i := fun i hni d hd' e' => hni (by
        subst e'
        rw [List.mem_filterMap]
        exact ⟨o, List.mem_of_getElem? (i := m0) (by rw [Array.getElem?_toList]; exact ho), hd'⟩)
      rw [e, List.append_assoc]
      refine aopsI_ok hrec hpc ops S _ Q n ro (m0 :: l2 ++ rest) l1 hk3 hr fun env1 h1 κ1 a1 w1 k1 k2 k3 k4 k5 k6 => ?_
      simp only [List.cons_append, wpOpsIn, ho]
      have hpd : ∀ val, (a1.put o.dst val).defers = a1.defers := fun val => by cases o.dst <;> rfl
      rcases guard_ok k1 k2 with ⟨hw, hk4⟩ | ⟨hw, hk4⟩
      · simp only [hw, if_true]
        refine step_ok hrec hpc o hk4 k2 _ Q n ro fun v h' κ' val w' g1 g2 g3 g4 g5 => ?_
        obtain ⟨_, g1, _⟩ := sameAll_some g1
        refine aopsI_ok hrec hpc ops S _ Q n ro rest l2 g1 (rel_put k2 g3 g4 g2 o hd) fun env2 h2 κ2 a2 w2 j1 j2 j3 j4 j5 j6 => ?_
        refine hcont env2 h2 κ2 a2 w2 j1 j2 ((k3.trans g4).trans j3) (fun i hni => ?_) ((j5.trans (hpd _)).trans k5)
        exact (j4 i (hsub l2 hl2lt i hni)).trans ((put_other fun d hd' => hdm i hni d hd').trans (k4 i (hsub l1 hl1lt i hni)))
      · simp only [hw, Bool.false_eq_true, if_false]
        simp only [cnd_eq] at hk4
        obtain ⟨_, hk4⟩ := ite_some hk4
        refine ⟨fun _ _ => trivial, ?_⟩
        refine aopsI_ok hrec hpc ops S _ Q n ro rest l2 hk4 (rel_put k2 k2.heap (Ext.refl _ _ _) (.tuple _ _ rfl fun j x hx => by simp at hx) o hd) fun env2 h2 κ2 a2 w2 j1 j2 j3 j4 j5 j6 => ?_
        refine hcont env2 h2 κ2 a2 w2 j1 j2 (k3.trans j3) (fun i hni => ?_) ((j5.trans (hpd _)).trans k5)
        exact (j4 i (hsub l2 hl2lt i hni)).trans ((put_other fun d hd' => hdm i hni d hd').trans (k4 i (hsub l1 hl1lt i hni)))
    · cases hk
  · rename_i hmc
    simp only [cnd_eq] at hk
    obtain ⟨hso, hk1⟩ := ite_some hk
    generalize looks ops (nf3 C ops (masks ops) lo hi none) hi env h = S at hk1
    have hfil : lp.filter (fun i => decide (lo ≤ i)) = lp := List.filter_eq_self.2 fun x hx => by simpa using ((hlpm x).1 hx).1
    have hrun : ∀ s : Env × Heap, lp.foldlM (fun s i => fstep C rec pc N ops S (nf3 C ops (masks ops) lo hi none) i s) s = ((List.range hi).filter fun i => decide (lo ≤ i)).foldlM (fun s i => fstep C rec pc N ops S (nf3 C ops (masks ops) lo hi none) i s) s := fun s => by
      have := seg_sort (fun i s => fstep C rec pc N ops S (nf3 C ops (masks ops) lo hi none) i s) (fun i => decide (lo ≤ i)) lo hi lp hlpn hlpm hlo (fun i h => by simpa using h) (hopen.imp_of_mem fun {x y} hx hy h hlt px py s => hcom none S hso x y ((hlpm x).1 hx).2 ((hlpm y).1 hy).1 hlt (h hlt) s) s
      rw [hfil] at this
      exact this
    have hk2 : aopsI C rec pc N ops S (nf3 C ops (masks ops) lo hi none) lp env h K = some r := by
      rw [aopsI_fold] at hk1 ⊢
      rw [hrun]
      exact hk1
    refine aopsI_ok hrec hpc ops S _ Q n ro rest lp hk2 hr fun env1 h1 κ1 a1 w1 k1 k2 k3 k4 k5 k6 => ?_
    exact hcont env1 h1 κ1 a1 w1 k1 k2 k3 (fun i hni => k4 i (hsub lp hlt i hni)) k5
theorem cut_split (k : Nat) : ∀ (l : List Nat), (l.Pairwise fun x y => ¬ (k ≤ x ∧ y < k)) → l = (l.filter fun i => decide (i < k)) ++ l.filter fun i => !decide (i < k)
  | [], _ => rfl
  | x :: l, h => by
    obtain ⟨h1, h2⟩ := List.pairwise_cons.1 h
    by_cases hx : x < k
    · rw [List.filter_cons_of_pos (by simpa using hx), List.filter_cons_of_neg (by simpa using hx), List.cons_append, ← cut_split k l h2]
    · have e : l.filter (fun i => decide (i < k)) = [] := by
        rw [List.filter_eq_nil_iff]
        intro y hy
        have := h1 y hy
        simp only [decide_eq_true_eq]
        omega
      have e2 : l.filter (fun i => !decide (i < k)) = l := List.filter_eq_self.2 fun y hy => by
        have := h1 y hy
        simp
        omega
      rw [List.filter_cons_of_neg (by simpa using hx), List.filter_cons_of_pos (by simpa using hx), e, e2, List.nil_append]
theorem segs_ok {C : Cfg} {rec : Rec} {pc : PRec} (hrec : RecOk C.P rec) (hpc : PRecOk C.P pc) {ops : Array Oper} {K : Env → Heap → Option R} {r : R} {m : Nat} (hff : forcedFrom (masks ops) ops.size m = true) (hle : m ≤ ops.size) (Q : Exit → Act → World → Prop) (n : Nat) (ro : Option Nat) :
    ∀ (ks : List Nat) (lo : Nat) (l : List Nat) {env : Env} {h : Heap} {κ : KMap} {a : Act} {w : World}, cutsOk (masks ops) ops.size m ks lo = true → l.Nodup → (∀ i, i ∈ l ↔ lo ≤ i ∧ i < ops.size) →
      (∀ l1 x l2, l = l1 ++ x :: l2 → ∀ y, lo ≤ y → ((masks ops).getD x 0).testBit y = true → y ∈ l1) →
      segsK C rec pc N ops (masks ops) ks lo env h K = some r → Rel B N κ env h a w →
      (∀ env1 h1 κ1 a1 w1, K env1 h1 = some r → Rel B N κ1 env1 h1 a1 w1 → Ext κ h w κ1 h1 w1 → (∀ i, i ∉ ops.toList.filterMap (·.dst) → env1 i = env i) → a1.defers = a.defers → wpOpsIn (Fr ro) n C.P ops Q (List.range' m (ops.size - m)) a1 w1) →
      wpOpsIn (Fr ro) n C.P ops Q l a w
  | [], lo, l, env, h, κ, a, w, hc, hn, hm, hord, hk, hr, hcont => by
    unfold cutsOk at hc
    have hlo : lo = m := by simpa using hc
    subst hlo
    have hmem : ∀ i, i ∈ List.range lo ++ l ↔ i < lo + (ops.size - lo) := fun i => by
      rw [List.mem_append, List.mem_range, hm]
      omega
    have hnd : (List.range lo ++ l).Nodup := by
      rw [List.nodup_append]
      refine ⟨List.nodup_range, hn, fun x hx y hy h => ?_⟩
      have := List.mem_range.1 hx
      have := (hm y).1 hy
      omega
    obtain ⟨lp, hL, hlpn, hlpm⟩ := forced_tail (n := lo) (ops.size - lo) (List.range lo ++ l) hnd hmem (fun l1 x l2 e hx y hy => by
      have hxs : x < ops.size := by
        have := (hmem x).1 (by rw [e]; simp)
        omega
      have hxl : x ∈ l := by
        have : x ∈ List.range lo ++ l := by rw [e]; simp
        rcases List.mem_append.1 this with h | h
        · have := List.mem_range.1 h; omega
        · exact h
      obtain ⟨b1, b2, eb⟩ := List.append_of_mem hxl
      have e3 : List.range lo ++ l = (List.range lo ++ b1) ++ x :: b2 := by rw [eb, List.append_assoc]
      have e4 : l1 = List.range lo ++ b1 := by
        have hnx : ∀ {u1 u2 v1 v2 : List Nat}, (u1 ++ x :: u2).Nodup → u1 ++ x :: u2 = v1 ++ x :: v2 → u1 = v1 := by
          intro u1
          induction u1 with
          | nil =>
            intro u2 v1 v2 hn he
            cases v1 with
            | nil => rfl
            | cons z v1 =>
              simp only [List.nil_append, List.cons_append, List.cons.injEq] at he
              obtain ⟨h1, h2⟩ := he
              simp only [List.nil_append, List.nodup_cons] at hn
              exact absurd (by rw [h2]; simp) hn.1
          | cons z u1 ih =>
            intro u2 v1 v2 hn he
            cases v1 with
            | nil =>
              simp only [List.nil_append, List.cons_append, List.cons.injEq] at he
              obtain ⟨h1, h2⟩ := he
              simp only [List.cons_append, List.nodup_cons] at hn
              exact absurd (by rw [h1]; simp) hn.1
            | cons z' v1 =>
              simp only [List.cons_append, List.cons.injEq] at he
              obtain ⟨h1, h2⟩ := he
              simp only [List.cons_append, List.nodup_cons] at hn
              rw [h1, ih hn.2 h2]
        rw [e] at hnd e3
        exact hnx hnd e3
      rw [e4]
      by_cases hyl : y < lo
      · exact List.mem_append.2 (.inl (List.mem_range.2 hyl))
      · have h1 := (List.all_eq_true.1 hff) x (List.mem_range.2 hxs)
        have h2 : (masks ops).getD x 0 = 2 ^ x - 1 := by
          simp only [Bool.or_eq_true, decide_eq_true_eq, beq_iff_eq] at h1
          exact h1.resolve_left (by omega)
        refine List.mem_append.2 (.inr (hord b1 x b2 eb y (by omega) ?_))
        rw [h2, Nat.testBit_two_pow_sub_one]
        simpa using hy)
    have hlen : lp.length = (List.range lo).length := by
      have h1 := congrArg List.length hL
      have h2 : l.length = ops.size - lo := by
        have h3 : (List.range lo ++ l).length = ops.size := by
          have hp : (List.range lo ++ l).Perm (List.range ops.size) := by
            refine (List.perm_ext_iff_of_nodup hnd List.nodup_range).2 fun i => ?_
            rw [hmem, List.mem_range]
            omega
          rw [hp.length_eq, List.length_range]
        simp only [List.length_append, List.length_range] at h3
        omega
      simp only [List.length_append, List.length_range, List.length_range'] at h1 ⊢
      omega
    have hl : l = List.range' lo (ops.size - lo) := (List.append_inj hL hlen.symm).2
    rw [hl]
    unfold segsK at hk
    exact hcont env h κ a w hk hr (Ext.refl _ _ _) (fun _ _ => rfl) rfl
  | k :: ks, lo, l, env, h, κ, a, w, hc, hn, hm, hord, hk, hr, hcont => by
    unfold cutsOk at hc
    simp only [Bool.and_eq_true, decide_eq_true_eq] at hc
    obtain ⟨⟨hlk, hkm⟩, hcut, hc⟩ := hc
    have hbit : ∀ x, k ≤ x → x < ops.size → ∀ y, y < k → ((masks ops).getD x 0).testBit y = true := fun x hx hxs y hy => by
      unfold cutAt at hcut
      have := (List.all_eq_true.1 hcut) x (List.mem_range.2 hxs)
      simp only [Bool.or_eq_true, decide_eq_true_eq] at this
      exact (List.all_eq_true.1 (this.resolve_left (by omega))) y (List.mem_range.2 hy)
    have hpw : l.Pairwise fun x y => ¬ (k ≤ x ∧ y < k) := pw_of l fun l1 x l2 y e hy hh => by
      have hx := (hm x).1 (by rw [e]; simp)
      have hyl := (hm y).1 (by rw [e]; simp [hy])
      have hy1 := hord l1 x l2 e y hyl.1 (hbit x hh.1 hx.2 y hh.2)
      rw [e, List.nodup_append] at hn
      exact hn.2.2 y hy1 y (by simp [hy]) rfl
    have hsplit := cut_split k l hpw
    generalize hlp : (l.filter fun i => decide (i < k)) = lp at hsplit
    generalize hlr : (l.filter fun i => !decide (i < k)) = lr at hsplit
    have hlpm : ∀ i, i ∈ lp ↔ lo ≤ i ∧ i < k := fun i => by
      rw [← hlp, List.mem_filter, hm, decide_eq_true_eq]
      omega
    have hlrm : ∀ i, i ∈ lr ↔ k ≤ i ∧ i < ops.size := fun i => by
      rw [← hlr, List.mem_filter, hm]
      simp
      omega
    have hnn := hn
    rw [hsplit, List.nodup_append] at hnn
    rw [hsplit]
    unfold segsK at hk
    refine seg_ok hrec hpc (by omega) (by omega) lp hnn.1 hlpm (pw_of lp fun l1 x l2 y e hy hlt2 hb => ?_) hk hr Q n ro lr fun env1 h1 κ1 a1 w1 k1 k2 k3 k4 k5 => ?_
    · have hyl := (hlpm y).1 (by rw [e]; simp [hy])
      have hy1 := hord l1 x (l2 ++ lr) (by rw [hsplit, e]; simp) y hyl.1 hb
      have := hnn.1
      rw [e, List.nodup_append] at this
      exact this.2.2 y hy1 y (by simp [hy]) rfl
    · refine segs_ok hrec hpc hff hle Q n ro ks k lr hc hnn.2.1 hlrm (fun l1 x l2 e y hy hb => ?_) k1 k2 fun env2 h2 κ2 a2 w2 j1 j2 j3 j4 j5 => hcont env2 h2 κ2 a2 w2 j1 j2 (k3.trans j3) (fun i hi => (j4 i hi).trans (k4 i hi)) (j5.trans k5)
      have hy1 := hord (lp ++ l1) x l2 (by rw [hsplit, e, List.append_assoc]) y (by omega) hb
      rcases List.mem_append.1 hy1 with h | h
      · have := (hlpm y).1 h; omega
      · exact h
theorem region_segs_ok {C : Cfg} {rec : Rec} {pc : PRec} (hrec : RecOk C.P rec) (hpc : PRecOk C.P pc) (hmix : C.P.follows .mixedOrders = true) {id : Nat} {ops : Array Oper} {K : Env → Heap → Option R} {r : R} {m : Nat} {ks : List Nat}
    (hcs : cutsOk (masks ops) ops.size m ks 0 = true) (hff : forcedFrom (masks ops) ops.size m = true) (hed : edgesOk ops = true) (hle : m ≤ ops.size)
    (hk1 : segsK C rec pc N ops (masks ops) ks 0 env h (fun env' h' => aopsK C rec pc N false ops (ops.toList.drop m) env' h' K) = some r)
    (hr : Rel B N κ env h a w) (Q : Exit → Act → World → Prop) (n : Nat) (ro : Option Nat)
    (hn : NextOps B N κ h w false ops.toList env a K r fun a' w' => Q .normal a' w') : (Code.region id ops true).wpIn (Fr ro) n C.P Q a w := by
  refine wpIn_region_draw fun t => ?_
  have hsch : Region.schedule (C.P.follows .mixedOrders) ops t = Region.linearise .any ops t := by
    simp only [Region.schedule, hmix, Bool.true_or, if_true]
  rw [hsch]
  obtain ⟨p1, p2, p3, p4⟩ := sched_props hed (linearise_sched ops t) (fun i hi => by cases hi)
  have hx0 := drew_ext hr.heap
  refine segs_ok hrec hpc hff hle Q n ro ks 0 (Region.linearise .any ops t) hcs p1 (fun i => ?_) (fun l1 x l2 e y _ hb => (p4 l1 x l2 e y hb).resolve_left (by simp)) hk1 (rel_drew hr) fun env1 h1 κ1 a1 w1 k1 k2 k3 k4 k5 => ?_
  · constructor
    · intro hi; exact ⟨Nat.zero_le _, (p2 i hi).2⟩
    · intro hi; exact (p3 i hi.2).resolve_left (by simp)
  · have := aops_ok hrec hpc ops Q n ro [] (ops.toList.drop m) (List.range' m (ops.size - m)) (by simp) (fun j i o hj ho => by
      have hjl : j < ops.size - m := by simpa using lt_of_get hj
      rw [List.getElem?_range' hjl] at hj
      cases hj
      rw [List.getElem?_drop] at ho
      simpa using ho) k1 k2 (fun env2 h2 κ2 a2 w2 j1 j2 j3 j4 j5 j6 => by
        refine hn env2 h2 κ2 a2 w2 j1 j2 ((hx0.trans k3).trans j3) (fun i hni => ?_) (j5.trans k5) (fun e => by cases e)
        have hsub1 : i ∉ (ops.toList.drop m).filterMap (·.dst) := fun hm => hni (by
          rw [List.mem_filterMap] at hm ⊢
          obtain ⟨o, ho, hd⟩ := hm
          exact ⟨o, List.mem_of_mem_drop ho, hd⟩)
        exact (j4 i hsub1).trans (k4 i hni))
    simpa using this

theorem region_ok {C : Cfg} {rec : Rec} {pc : PRec} (hrec : RecOk C.P rec) (hpc : PRecOk C.P pc) (hmix : C.P.follows .mixedOrders = true) {id : Nat} {ops : Array Oper} {draw : Bool} {K : Env → Heap → Option R} {r : R}
    (hk : regionK C rec pc N ops draw env h K = some r) (hr : Rel B N κ env h a w) (Q : Exit → Act → World → Prop) (n : Nat) (ro : Option Nat)
    (hn : NextOps B N κ h w false ops.toList env a K r fun a' w' => Q .normal a' w') : (Code.region id ops draw).wpIn (Fr ro) n C.P Q a w := by
  unfold regionK at hk
  try simp only [cnd_eq] at hk
  cases draw with
  | false =>
    simp only [Bool.false_eq_true, if_false] at hk
    refine wpIn_region ?_
    have := aops_ok hrec hpc ops Q n ro [] ops.toList (List.range ops.size) (by simp) (fun j i o hj ho => by
      have hjl : j < ops.size := by simpa using lt_of_get hj
      rw [List.getElem?_range hjl] at hj
      cases hj
      simpa using ho) hk hr hn
    simpa using this
  | true =>
    simp only [if_true] at hk
    split at hk
    · rename_i i0 j0 heq0
      obtain ⟨⟨hp, hff, hed, hle⟩, hk1⟩ := ite_some hk
      obtain ⟨hA, hB⟩ := both_some hk1
      exact region_pair_ok hrec hpc hmix hp hff hed hle hA hB hr Q n ro hn
    split at hk
    · rename_i heqm
      obtain ⟨⟨hcs, hff, hed, hle⟩, hk1⟩ := ite_some hk
      exact region_segs_ok hrec hpc hmix hcs hff hed hle hk1 hr Q n ro hn
    obtain ⟨⟨hdo, hff, hed, hle⟩, hk1⟩ := ite_some hk
    clear hk
    refine wpIn_region_draw fun t => ?_
    have hsch : Region.schedule (C.P.follows .mixedOrders) ops t = Region.linearise .any ops t := by
      simp only [Region.schedule, hmix, Bool.true_or, if_true]
    rw [hsch]
    generalize drawSplit (masks ops) ops.size = m at *
    generalize hS : looks ops (needFree C ops (masks ops) m) m env h = S at *
    clear hS
    obtain ⟨p1, p2, p3, p4⟩ := sched_props hed (linearise_sched ops t) (fun i hi => by cases hi)
    obtain ⟨lp, hL, hlpn, hlpm⟩ := forced_tail (n := m) (ops.size - m) (Region.linearise .any ops t) p1 (fun i => by
      constructor
      · intro hi; have := (p2 i hi).2; omega
      · intro hi; exact (p3 i (by omega)).resolve_left (by simp)) (fun l1 x l2 e hx y hy => by
        have hxs : x < ops.size := (p2 x (by rw [e]; simp)).2
        have h1 := (List.all_eq_true.1 hff) x (List.mem_range.2 hxs)
        have h2 : (masks ops).getD x 0 = 2 ^ x - 1 := by
          simp only [Bool.or_eq_true, decide_eq_true_eq, beq_iff_eq] at h1
          exact h1.resolve_left (by omega)
        refine (p4 l1 x l2 e y ?_).resolve_left (by simp)
        rw [h2, Nat.testBit_two_pow_sub_one]
        simpa using hy)
    rw [hL]
    let g : Nat → Oper := fun i => ops.getD i default
    have hlt : ∀ i ∈ lp, i < ops.size := fun i hi => by have := (hlpm i).1 hi; omega
    -- pairs whose order is open
    have hpair : ∀ x y, x < m → y < x → ¬ ((masks ops).getD x 0).testBit y = true →
        (loudAt C ops y && loudAt C ops x) = false ∧ (∀ d, (g y).dst = some d → d ∉ (g x).looksAt ops) ∧ (∀ d, (g y).dst = some d → (g x).dst ≠ some d) ∧ (∀ d, (g x).dst = some d → d ∉ (g y).looksAt ops) ∧
        (loudAt C ops x = true → needFree C ops (masks ops) m y = true) ∧ (loudAt C ops y = true → needFree C ops (masks ops) m x = true) := fun x y hx hlt2 h2 => by
      have h1 := (List.all_eq_true.1 ((List.all_eq_true.1 hdo) x (List.mem_range.2 hx))) y (List.mem_range.2 hlt2)
      have ex := getD_oper (show x < ops.size by omega)
      have ey := getD_oper (show y < ops.size by omega)
      rw [ex, ey] at h1
      simp only [Bool.or_eq_true, Bool.and_eq_true, Bool.not_eq_true'] at h1
      obtain ⟨hnl, hap⟩ := h1.resolve_left h2
      obtain ⟨q1, q2, q3⟩ := Oper.apart_spec hap
      have hun : unord (masks ops) x y = true := by unfold unord; rw [if_neg (by omega)]; simpa using h2
      have hun' : unord (masks ops) y x = true := by unfold unord; rw [if_pos hlt2]; simpa using h2
      refine ⟨hnl, q1, q2, q3, fun hlx => ?_, fun hly => ?_⟩
      · unfold needFree
        refine List.any_eq_true.2 ⟨x, List.mem_range.2 hx, ?_⟩
        simp only [Bool.and_eq_true, bne_iff_ne]
        exact ⟨⟨hlx, by omega⟩, hun'⟩
      · unfold needFree
        refine List.any_eq_true.2 ⟨y, List.mem_range.2 (by omega), ?_⟩
        simp only [Bool.and_eq_true, bne_iff_ne]
        exact ⟨⟨hly, by omega⟩, hun⟩
    have hopen : lp.Pairwise fun x y => y < x → ¬ ((masks ops).getD x 0).testBit y = true := pw_of lp fun l1 x l2 y e hy hlt2 hb => by
      have := (p4 l1 x (l2 ++ List.range' m (ops.size - m)) (by rw [hL, e]; simp) y hb).resolve_left (by simp)
      rw [e, List.nodup_append] at hlpn
      exact hlpn.2.2 y this y (by simp [hy]) rfl
    have hcom : ∀ x y, x < m → y < x → ¬ ((masks ops).getD x 0).testBit y = true → ∀ s : Env × Heap, (fstep C rec pc N ops S (needFree C ops (masks ops) m) x s).bind (fstep C rec pc N ops S (needFree C ops (masks ops) m) y) = (fstep C rec pc N ops S (needFree C ops (masks ops) m) y s).bind (fstep C rec pc N ops S (needFree C ops (masks ops) m) x) := fun x y hx hlt2 h2 s => by
      obtain ⟨hnl, q1, q2, q3, n1, n2⟩ := hpair x y hx hlt2 h2
      have ex := getD_oper (show x < ops.size by omega)
      have ey := getD_oper (show y < ops.size by omega)
      have lx : loudAt C ops x = (loudOp C (g x).op || heapCall C (g x).op) := by unfold loudAt; rw [ex]
      have ly : loudAt C ops y = (loudOp C (g y).op || heapCall C (g y).op) := by unfold loudAt; rw [ey]
      cases hlx : loudOp C (g x).op with
      | true =>
        have hlx' : loudAt C ops x = true := by rw [lx, hlx]; rfl
        have hly : loudOp C (g y).op = false := by
          rw [hlx', Bool.and_true, ly, Bool.or_eq_false_iff] at hnl
          exact hnl.1
        exact loud_comm C rec pc N ops S _ ex ey q3 (fun d hd hd2 => q2 d hd2 hd) q1 hlx hly (n1 hlx') s
      | false =>
        cases hly : loudOp C (g y).op with
        | true => exact (loud_comm C rec pc N ops S _ ey ex q1 q2 q3 hly hlx (n2 (by rw [ly, hly]; rfl)) s).symm
        | false => exact (quiet_comm C rec pc N ops S _ ey ex q1 q2 q3 hly hlx s).symm
    have hsub : ∀ (l : List Nat), (∀ i ∈ l, i < ops.size) → ∀ i, i ∉ ops.toList.filterMap (·.dst) → i ∉ (l.map g).filterMap (·.dst) := fun l hl i hni hm => hni (by
      rw [List.mem_filterMap] at hm ⊢
      obtain ⟨o, ho, hd⟩ := hm
      obtain ⟨x, hx, rfl⟩ := List.mem_map.1 ho
      refine ⟨g x, ?_, hd⟩
      have := getD_oper (hl x hx)
      exact List.mem_of_getElem? (i := x) (by rw [Array.getElem?_toList]; exact this))
    -- the forced end
    have hrest : ∀ env1 h1 κ1 a1 w1, aopsK C rec pc N false ops (ops.toList.drop m) env1 h1 K = some r → Rel B N κ1 env1 h1 a1 w1 → Ext κ h w κ1 h1 w1 → (∀ i, i ∉ ops.toList.filterMap (·.dst) → env1 i = env i) → a1.defers = a.defers →
        wpOpsIn (Fr ro) n C.P ops Q (List.range' m (ops.size - m)) a1 w1 := fun env1 h1 κ1 a1 w1 k1 k2 k3 k4 k5 => by
      have := aops_ok hrec hpc ops Q n ro [] (ops.toList.drop m) (List.range' m (ops.size - m)) (by simp) (fun j i o hj ho => by
        have hjl : j < ops.size - m := by simpa using lt_of_get hj
        rw [List.getElem?_range' hjl] at hj
        cases hj
        rw [List.getElem?_drop] at ho
        simpa using ho) k1 k2 (fun env2 h2 κ2 a2 w2 j1 j2 j3 j4 j5 j6 => by
          refine hn env2 h2 κ2 a2 w2 j1 j2 (k3.trans j3) (fun i hni => ?_) (j5.trans k5) (fun e => by cases e)
          have hsub1 : i ∉ (ops.toList.drop m).filterMap (·.dst) := fun hm => hni (by
            rw [List.mem_filterMap] at hm ⊢
            obtain ⟨o, ho, hd⟩ := hm
            exact ⟨o, List.mem_of_mem_drop ho, hd⟩)
          exact (j4 i hsub1).trans (k4 i hni))
      simpa using this
    have hx0 := drew_ext hr.heap
    split at hk1
    · -- a call at the end
      rename_i m0 o heq
      have hsel : m = m0 + 1 ∧ ops[m0]? = some o ∧ heapCall C o.op = true := by
        split at heq
        · rename_i k
          split at heq
          · rename_i o' ho'
            split at heq
            · cases heq; exact ⟨rfl, ho', by assumption⟩
            · cases heq
          · cases heq
        · cases heq
      obtain ⟨hm0, ho, hhc⟩ := hsel
      have hgo : g m0 = o := by
        have h1 := getD_oper (show m0 < ops.size by omega)
        rw [ho] at h1
        exact (Option.some.inj h1).symm
      obtain ⟨l1, l2, e⟩ := List.append_of_mem ((hlpm m0).2 (by omega))
      have hn' := hlpn
      rw [e, List.nodup_append, List.nodup_cons] at hn'
      obtain ⟨n1, ⟨n2, n3⟩, n4⟩ := hn'
      have hm2 : ∀ i, i ∈ l1 ++ l2 ↔ i < m0 := fun i => by
        constructor
        · intro hi
          have h5 := (hlpm i).1 (by rw [e]; simp only [List.mem_append, List.mem_cons]; rcases List.mem_append.1 hi with h | h; exact .inl h; exact .inr (.inr h))
          have h6 : i ≠ m0 := fun h => by
            subst h
            rcases List.mem_append.1 hi with h | h
            · exact n4 i h i (by simp) rfl
            · exact n2 h
          omega
        · intro hi
          have h5 := (hlpm i).2 (by omega)
          rw [e] at h5
          simp only [List.mem_append, List.mem_cons] at h5 ⊢
          rcases h5 with h5 | h5 | h5
          · exact .inl h5
          · omega
          · exact .inr h5
      have hpw : (l1 ++ l2).Pairwise fun x y => y < x → ¬ ((masks ops).getD x 0).testBit y = true := by
        refine hopen.sublist ?_
        rw [e]
        exact List.Sublist.append (List.Sublist.refl _) (List.sublist_cons_self _ _)
      have hrun : ∀ s : Env × Heap, (l1 ++ l2).foldlM (fun s i => fstep C rec pc N ops S (needFree C ops (masks ops) m) i s) s = (List.range m0).foldlM (fun s i => fstep C rec pc N ops S (needFree C ops (masks ops) m) i s) s := fun s =>
        sort_run (fun i s => fstep C rec pc N ops S (needFree C ops (masks ops) m) i s) m0 (l1 ++ l2) (List.nodup_append.2 ⟨n1, n3, fun a ha b hb => n4 a ha b (by simp [hb])⟩) hm2 (fun b1 x b2 y e2 hy hlt2 s =>
          hcom x y (by have := (hm2 x).1 (by rw [e2]; simp); omega) hlt2 (pw_use hpw e2 hy hlt2) s) s
      have hk2 : aopsI C rec pc N ops S (needFree C ops (masks ops) m) (l1 ++ l2) env h (fun env' h' => lastK C rec pc N S o env' h' fun env' h' => aopsK C rec pc N false ops (ops.toList.drop m) env' h' K) = some r := by
        rw [aopsI_fold] at hk1 ⊢
        rw [hrun]
        exact hk1
      have hl2 : ∀ y ∈ l2, y < m0 := fun y hy => (hm2 y).1 (by simp [hy])
      obtain ⟨hd, hg, hk3⟩ := last_swap (fun _ _ _ K1 hE => call_congr C rec pc hhc hE K1) (fun y hy => by
        have hym := hl2 y hy
        have hno := pw_use hopen e hy hym
        obtain ⟨hnl, q1, q2, q3, f1, f2⟩ := hpair m0 y (by omega) hym hno
        have hlm : loudAt C ops m0 = true := by unfold loudAt; rw [ho]; simp [hhc]
        have ey := getD_oper (show y < ops.size by omega)
        rw [hgo] at q1 q2 q3
        refine ⟨g y, ey, ?_, f1 hlm, q3, fun d hd hd2 => q2 d hd2 hd, q1⟩
        rw [hlm, Bool.and_true] at hnl
        unfold loudAt at hnl
        rw [ey] at hnl
        rw [Bool.or_eq_false_iff] at hnl
        exact hnl.1) hk2
      have hl1lt : ∀ i ∈ l1, i < ops.size := fun i hi => hlt i (by rw [e]; simp [hi])
      have hl2lt : ∀ i ∈ l2, i < ops.size := fun i hi => hlt i (by rw [e]; simp [hi])
      rw [e, List.append_assoc]
      refine aopsI_ok hrec hpc ops S _ Q n ro (m0 :: l2 ++ List.range' m (ops.size - m)) l1 hk3 (rel_drew hr) fun env1 h1 κ1 a1 w1 k1 k2 k3 k4 k5 k6 => ?_
      simp only [List.cons_append, wpOpsIn, ho]
      have hgk : guardK ops o env1 (fun env1 => stepK C rec pc false env1 h1 o.op fun v h' => cnd (S.all (sameAt h1 h') = true) (aopsI C rec pc N ops S (needFree C ops (masks ops) m) l2 (env1.put o.dst v) h' fun env' h' => aopsK C rec pc N false ops (ops.toList.drop m) env' h' K) none) (fun _ => none) = some r := by
        unfold guardK
        rw [hg]
        exact k1
      rcases guard_ok hgk k2 with ⟨hw, hk4⟩ | ⟨hw, hk4⟩
      · simp only [hw, if_true]
        refine step_ok hrec hpc o hk4 k2 _ Q n ro fun v h' κ' val w' g1 g2 g3 g4 g5 => ?_
        simp only [cnd_eq] at g1
        obtain ⟨_, g1⟩ := ite_some g1
        refine aopsI_ok hrec hpc ops S _ Q n ro (List.range' m (ops.size - m)) l2 g1 (rel_put k2 g3 g4 g2 o hd) fun env2 h2 κ2 a2 w2 j1 j2 j3 j4 j5 j6 => ?_
        have hpd : ∀ val, (a1.put o.dst val).defers = a1.defers := fun val => by cases o.dst <;> rfl
        refine hrest env2 h2 κ2 a2 w2 j1 j2 (((hx0.trans k3).trans g4).trans j3) (fun i hni => ?_) ((j5.trans (hpd _)).trans k5)
        refine (j4 i (hsub l2 hl2lt i hni)).trans (Eq.trans ?_ (k4 i (hsub l1 hl1lt i hni)))
        refine put_other fun d hd' e' => hni ?_
        subst e'
        rw [List.mem_filterMap]
        exact ⟨o, List.mem_of_getElem? (i := m0) (by rw [Array.getElem?_toList]; exact ho), hd'⟩
      · cases hk4
    · have hrun : ∀ s : Env × Heap, lp.foldlM (fun s i => fstep C rec pc N ops S (needFree C ops (masks ops) m) i s) s = (List.range m).foldlM (fun s i => fstep C rec pc N ops S (needFree C ops (masks ops) m) i s) s := fun s =>
        sort_run (fun i s => fstep C rec pc N ops S (needFree C ops (masks ops) m) i s) m lp hlpn hlpm (fun b1 x b2 y e2 hy hlt2 s =>
          hcom x y ((hlpm x).1 (by rw [e2]; simp)) hlt2 (pw_use hopen e2 hy hlt2) s) s
      have hk2 : aopsI C rec pc N ops S (needFree C ops (masks ops) m) lp env h (fun env' h' => aopsK C rec pc N false ops (ops.toList.drop m) env' h' K) = some r := by
        rw [aopsI_fold] at hk1 ⊢
        rw [hrun]
        exact hk1
      refine aopsI_ok hrec hpc ops S _ Q n ro (List.range' m (ops.size - m)) lp hk2 (rel_drew hr) fun env1 h1 κ1 a1 w1 k1 k2 k3 k4 k5 k6 => ?_
      exact hrest env1 h1 κ1 a1 w1 k1 k2 (hx0.trans k3) (fun i hni => k4 i (hsub lp hlt i hni)) k5

end Ab
