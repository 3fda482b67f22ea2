/- Soundness: regions. -/
import Derived.Test.YtglkblaagdoagaaAbM
set_option linter.unusedVariables false
set_option linter.unusedSimpArgs false
namespace Ab
open Go

variable {R : Type} {P : Program} {B : Nat → Prop} {κ : KMap} {h : Heap} {w : World} {N : Nat} {env : Env} {a : Act}

theorem rel_drew (hr : Rel B N κ env h a w) : Rel B N κ env h a { w with drawn := w.drawn + 1 } :=
  ⟨hrel_grow hr.heap (drew_ext hr.heap) fun _ _ => rfl, hr.size, fun i => (hr.slot i).ext (drew_ext hr.heap)⟩

theorem getD_oper {ops : Array Oper} {i : Nat} (hi : i < ops.size) : ops[i]? = some (ops.getD i default) := by
  simp only [Array.getD, hi, dif_pos]
  exact Array.getElem?_eq_getElem hi

theorem take_map {ops : Array Oper} {n : Nat} (hn : n ≤ ops.size) : ops.toList.take n = (List.range n).map fun i => ops.getD i default := by
  apply List.ext_getElem?
  intro i
  rcases Nat.lt_or_ge i n with hi | hi
  · have h1 : i < ops.size := by omega
    rw [List.getElem?_take_of_lt hi, List.getElem?_map, List.getElem?_range hi, Array.getElem?_toList, getD_oper h1]
    rfl
  · rw [List.getElem?_eq_none (by simp; omega), List.getElem?_eq_none (by simp; omega)]

/-! ### steps of a region whose order is open, loud ones among them -/
theorem loud_congr {R : Type} (C : Cfg) (rec : Rec) (pc : PRec) {env env' : Env} {op : Op} (hl : loudOp C op = true) (hE : ∀ x ∈ op.operands, ev env x = ev env' x) (K : AV → Heap → Option R) :
    stepK C rec pc false env h op K = stepK C rec pc false env' h op K := by
  by_cases hh : isHop op = true
  case neg =>
    obtain ⟨g, args, argTypes, rfl⟩ : ∃ g args argTypes, op = .call { callee := .value (.func g), args, argTypes } := by
      unfold loudOp at hl
      split at hl <;> first | (exact absurd rfl hh) | (exact ⟨_, _, _, rfl⟩) | cases hl
    have hh' : isHop (.call { callee := .value (.func g), args, argTypes }) = false := by simpa using hh
    have hm : args.toList.map (ev env) = args.toList.map (ev env') := List.map_congr_left fun y hy => hE y (by simp [Op.operands, Call.operands]; right; simpa using hy)
    unfold stepK
    simp only [hh', Bool.false_eq_true, if_false, hm]
    rfl
  unfold stepK
  simp only [hh, if_true, Bool.false_eq_true, if_false]
  cases op with
  | alloc t =>
    simp only [immOf]
    by_cases hc : C.curT t = true <;> simp [hc, hop]
  | box t x =>
    have h1 := hE x (by simp [Op.operands])
    simp only [immOf]
    by_cases hc : C.cur (condKey x) = true <;> simp [hc, hop, h1]
  | store t a x =>
    have h1 := hE a (by simp [Op.operands])
    have h2 := hE x (by simp [Op.operands])
    simp only [immOf]
    by_cases hc : C.curT t = true <;> simp [hc, hop, h1, h2]
  | call c =>
    obtain ⟨callee, args, argTypes⟩ := c
    cases callee with
    | builtin b =>
      cases b <;> first | (simp [loudOp] at hl; done) | skip
      simp only [immOf, hop]
      split
      · rename_i s x t t' hx _
        have hm : ∀ y ∈ args.toList, ev env y = ev env' y := fun y hy => hE y (by simp [Op.operands, Call.operands]; simpa using hy)
        rw [hm s (by rw [hx]; simp), hm x (by rw [hx]; simp)]
      · rfl
    | _ => simp [isHop] at hh
  | _ => first | (simp [loudOp] at hl; done) | (simp [isHop] at hh; done)

noncomputable def dval (C : Cfg) (rec : Rec) (pc : PRec) (env : Env) (h : Heap) (op : Op) : Option (AV × Heap) := stepK C rec pc (!loudOp C op) env h op fun v h' => some (v, h')
theorem dval_eq {R : Type} (C : Cfg) (rec : Rec) (pc : PRec) (env : Env) (op : Op) (K : AV → Heap → Option R) : stepK C rec pc (!loudOp C op) env h op K = (dval C rec pc env h op).bind fun p => K p.1 p.2 := by
  unfold dval
  cases hl : loudOp C op with
  | false =>
    simp only [Bool.not_false, step_eq]
    cases qval C rec pc h env op <;> rfl
  | true =>
    simp only [Bool.not_true]
    rcases det_loud (h := h) C rec pc env op hl with ⟨p, hp⟩ | hn
    · rw [show stepK C rec pc false env h op K = K p.1 p.2 from hp R fun q => K q.1 q.2, show (stepK C rec pc false env h op fun v h' => some (v, h')) = some p from hp (AV × Heap) some]
      rfl
    · rw [show stepK C rec pc false env h op K = none from hn R fun q => K q.1 q.2, show (stepK C rec pc false env h op fun v h' => some (v, h')) = none from hn (AV × Heap) some]
      rfl
noncomputable def dput (C : Cfg) (rec : Rec) (pc : PRec) (N : Nat) (ops : Array Oper) (nf : Bool) (o : Oper) (env : Env) (h : Heap) : Option (AV × Heap) :=
  if dstOk N o = true ∧ (nf = true → hfreeOp env o.op = true) then (gval ops o env).bind fun b => if b then dval C rec pc env h o.op else some (.tuple [], h) else none
noncomputable def fstep (C : Cfg) (rec : Rec) (pc : PRec) (N : Nat) (ops : Array Oper) (nf : Nat → Bool) (i : Nat) (s : Env × Heap) : Option (Env × Heap) :=
  match ops[i]? with
  | some o => (dput C rec pc N ops (nf i) o s.1 s.2).map fun p => (s.1.put o.dst p.1, p.2)
  | none => none
theorem aopsI_fold {R : Type} (C : Cfg) (rec : Rec) (pc : PRec) (N : Nat) (ops : Array Oper) (nf : Nat → Bool) : ∀ (l : List Nat) (env : Env) (h : Heap) (K : Env → Heap → Option R),
    aopsI C rec pc N ops nf l env h K = (l.foldlM (fun s i => fstep C rec pc N ops nf i s) (env, h)).bind fun s => K s.1 s.2
  | [], env, h, K => rfl
  | i :: l, env, h, K => by
    simp only [aopsI, List.foldlM_cons, fstep]
    cases ho : ops[i]? with
    | none => rfl
    | some o =>
      simp only [dput, cnd_eq]
      by_cases hd : dstOk N o = true ∧ (nf i = true → hfreeOp env o.op = true)
      · rw [if_pos hd, if_pos hd, guard_eq]
        cases gval ops o env with
        | none => rfl
        | some b =>
          cases b with
          | true =>
            simp only [Option.bind_some, if_true, dval_eq]
            cases dval C rec pc env h o.op with
            | none => rfl
            | some p => simp only [Option.bind_some, Option.map_some, aopsI_fold C rec pc N ops nf l]; rfl
          | false => simp only [Option.bind_some, Bool.false_eq_true, if_false, aopsI_fold C rec pc N ops nf l]; rfl
      · rw [if_neg hd, if_neg hd]; rfl

theorem free_congr {env env' : Env} {op : Op} (hE : ∀ x ∈ op.operands, ev env x = ev env' x) : hfreeOp env op = hfreeOp env' op := by
  unfold hfreeOp
  rw [Bool.eq_iff_iff, List.all_eq_true, List.all_eq_true]
  constructor
  · intro hh x hx; rw [← hE x (by simpa using hx)]; exact hh x hx
  · intro hh x hx; rw [hE x (by simpa using hx)]; exact hh x hx
theorem dput_congr (C : Cfg) (rec : Rec) (pc : PRec) (N : Nat) (ops : Array Oper) (nf : Bool) (o : Oper) {env env' : Env} (hE : ∀ t ∈ o.looksAt ops, env t = env' t) : dput C rec pc N ops nf o env h = dput C rec pc N ops nf o env' h := by
  have h1 := looks_ev ops o hE
  unfold dput
  rw [free_congr h1, gval_congr ops o hE]
  have : dval C rec pc env h o.op = dval C rec pc env' h o.op := by
    unfold dval
    cases hl : loudOp C o.op with
    | true => exact loud_congr C rec pc hl h1 _
    | false =>
      simp only [Bool.not_false, step_eq]
      rw [qval_congr C rec pc o.op h1]
  rw [this]
noncomputable def qputF (C : Cfg) (rec : Rec) (pc : PRec) (N : Nat) (ops : Array Oper) (nf : Bool) (o : Oper) (env : Env) (h : Heap) : Option AV :=
  if dstOk N o = true ∧ (nf = true → hfreeOp env o.op = true) then (gval ops o env).bind fun b => if b then qval C rec pc h env o.op else some (.tuple []) else none
theorem dput_quiet (C : Cfg) (rec : Rec) (pc : PRec) (N : Nat) (ops : Array Oper) (nf : Bool) (o : Oper) (env : Env) (hl : loudOp C o.op = false) : dput C rec pc N ops nf o env h = (qputF C rec pc N ops nf o env h).map fun v => (v, h) := by
  unfold dput qputF dval
  rw [hl]
  simp only [Bool.not_false, step_eq]
  split
  · cases gval ops o env with
    | none => rfl
    | some b =>
      cases b
      · rfl
      · simp only [Option.bind_some, if_true]
        cases qval C rec pc h env o.op <;> rfl
  · rfl
theorem qputF_free (C : Cfg) (rec : Rec) (pc : PRec) (N : Nat) (ops : Array Oper) (o : Oper) (env : Env) (h h' : Heap) : qputF C rec pc N ops true o env h = qputF C rec pc N ops true o env h' := by
  unfold qputF
  by_cases hd : dstOk N o = true ∧ (true = true → hfreeOp env o.op = true)
  · rw [if_pos hd, if_pos hd, qval_free (hd.2 rfl)]
  · rw [if_neg hd, if_neg hd]

/-- A loud step and a quiet free one. -/
theorem loud_comm (C : Cfg) (rec : Rec) (pc : PRec) (N : Nat) (ops : Array Oper) (nf : Nat → Bool) {i j : Nat} {a b : Oper} (hi : ops[i]? = some a) (hj : ops[j]? = some b) (h1 : ∀ d, a.dst = some d → d ∉ b.looksAt ops) (h2 : ∀ d, a.dst = some d → b.dst ≠ some d) (h3 : ∀ d, b.dst = some d → d ∉ a.looksAt ops)
    (hb : loudOp C b.op = false) (hnf : nf j = true) (s : Env × Heap) : (fstep C rec pc N ops nf i s).bind (fstep C rec pc N ops nf j) = (fstep C rec pc N ops nf j s).bind (fstep C rec pc N ops nf i) := by
  obtain ⟨env, h⟩ := s
  have hA : ∀ v, dput C rec pc N ops (nf i) a (env.put b.dst v) h = dput C rec pc N ops (nf i) a env h := fun v => dput_congr C rec pc N ops _ a fun t ht => put_other fun d hd e => h3 d hd (e ▸ ht)
  have hB : ∀ v h', dput C rec pc N ops (nf j) b (env.put a.dst v) h' = (qputF C rec pc N ops true b env h).map fun u => (u, h') := fun v h' => by
    rw [dput_congr (env' := env) C rec pc N ops _ b fun t ht => put_other fun d hd e => h1 d hd (e ▸ ht), hnf, dput_quiet C rec pc N ops true b env hb, qputF_free C rec pc N ops b env h' h]
  have hB0 : dput C rec pc N ops (nf j) b env h = (qputF C rec pc N ops true b env h).map fun u => (u, h) := by rw [hnf, dput_quiet C rec pc N ops true b env hb]
  have fi : fstep C rec pc N ops nf i = fun s => (dput C rec pc N ops (nf i) a s.1 s.2).map fun p => (s.1.put a.dst p.1, p.2) := by funext s; simp only [fstep, hi]
  have fj : fstep C rec pc N ops nf j = fun s => (dput C rec pc N ops (nf j) b s.1 s.2).map fun p => (s.1.put b.dst p.1, p.2) := by funext s; simp only [fstep, hj]
  simp only [fi, fj]
  cases hd : dput C rec pc N ops (nf i) a env h with
  | none =>
    rw [hB0]
    cases qputF C rec pc N ops true b env h with
    | none => rfl
    | some u => simp [hA, hd]
  | some p =>
    simp only [Option.map_some, Option.bind_some, hB, hB0]
    cases qputF C rec pc N ops true b env h with
    | none => rfl
    | some u =>
      simp only [Option.map_some, Option.bind_some, hA, hd]
      rw [put_comm h2]
/-- Two quiet steps. -/
theorem quiet_comm (C : Cfg) (rec : Rec) (pc : PRec) (N : Nat) (ops : Array Oper) (nf : Nat → Bool) {i j : Nat} {a b : Oper} (hi : ops[i]? = some a) (hj : ops[j]? = some b) (h1 : ∀ d, a.dst = some d → d ∉ b.looksAt ops) (h2 : ∀ d, a.dst = some d → b.dst ≠ some d) (h3 : ∀ d, b.dst = some d → d ∉ a.looksAt ops)
    (ha : loudOp C a.op = false) (hb : loudOp C b.op = false) (s : Env × Heap) : (fstep C rec pc N ops nf i s).bind (fstep C rec pc N ops nf j) = (fstep C rec pc N ops nf j s).bind (fstep C rec pc N ops nf i) := by
  obtain ⟨env, h⟩ := s
  have hA : ∀ v, dput C rec pc N ops (nf i) a (env.put b.dst v) h = dput C rec pc N ops (nf i) a env h := fun v => dput_congr C rec pc N ops _ a fun t ht => put_other fun d hd e => h3 d hd (e ▸ ht)
  have hB : ∀ v, dput C rec pc N ops (nf j) b (env.put a.dst v) h = dput C rec pc N ops (nf j) b env h := fun v => dput_congr C rec pc N ops _ b fun t ht => put_other fun d hd e => h1 d hd (e ▸ ht)
  have qa := dput_quiet (h := h) C rec pc N ops (nf i) a env ha
  have qb := dput_quiet (h := h) C rec pc N ops (nf j) b env hb
  have fi : fstep C rec pc N ops nf i = fun s => (dput C rec pc N ops (nf i) a s.1 s.2).map fun p => (s.1.put a.dst p.1, p.2) := by funext s; simp only [fstep, hi]
  have fj : fstep C rec pc N ops nf j = fun s => (dput C rec pc N ops (nf j) b s.1 s.2).map fun p => (s.1.put b.dst p.1, p.2) := by funext s; simp only [fstep, hj]
  simp only [fi, fj]
  cases hqa : qputF C rec pc N ops (nf i) a env h with
  | none =>
    rw [hqa] at qa
    rw [qa]
    cases hqb : qputF C rec pc N ops (nf j) b env h with
    | none => rw [hqb] at qb; rw [qb]; rfl
    | some u => rw [hqb] at qb; rw [qb]; simp [hA, qa]
  | some v =>
    rw [hqa] at qa
    rw [qa]
    cases hqb : qputF C rec pc N ops (nf j) b env h with
    | none => rw [hqb] at qb; simp [hB, qb]
    | some u =>
      rw [hqb] at qb
      simp only [Option.map_some, Option.bind_some, hA, hB, qa, qb]
      rw [put_comm h2]

theorem aopsI_ok {C : Cfg} {rec : Rec} {pc : PRec} (hrec : RecOk C.P rec) (hpc : PRecOk C.P pc) (ops : Array Oper) (nf : Nat → Bool) (Q : Exit → Act → World → Prop) (n : Nat) (ro : Option Nat) (rest : List Nat) :
    ∀ (l : List Nat) {K : Env → Heap → Option R} {r : R} {env : Env} {h : Heap} {κ : KMap} {a : Act} {w : World},
      aopsI C rec pc N ops nf l env h K = some r → Rel B N κ env h a w → NextOps B N κ h w false (l.map fun i => ops.getD i default) env a K r (wpOpsIn (Fr ro) n C.P ops Q rest) → wpOpsIn (Fr ro) n C.P ops Q (l ++ rest) a w
  | [], K, r, env, h, κ, a, w, hk, hr, hn => hn env h κ a w hk hr (Ext.refl _ _ _) (fun _ _ => rfl) rfl fun e => by cases e
  | i :: l, K, r, env, h, κ, a, w, hk, hr, hn => by
    simp only [aopsI, cnd_eq] at hk
    split at hk
    · rename_i o ho
      obtain ⟨⟨hd, _⟩, hk⟩ := ite_some hk
      have hgo : ops.getD i default = o := by
        have hlt : i < ops.size := (Array.getElem?_eq_some_iff.1 ho).1
        have := getD_oper hlt
        rw [ho] at this
        exact (Option.some.inj this).symm
      simp only [List.cons_append, wpOpsIn, ho]
      simp only [List.map_cons, hgo] at hn
      have hput : ∀ (v : AV) (t : Tmp), t ∉ (o :: l.map fun i => ops.getD i default).filterMap (·.dst) → (env.put o.dst v) t = env t := fun v t hni => by
        cases hdst : o.dst with
        | none => rfl
        | some d =>
          simp only [Env.put]
          rw [if_neg fun e => hni (by simp [hdst, e])]
      have hpd : ∀ val, (a.put o.dst val).defers = a.defers := fun val => by cases o.dst <;> rfl
      have hsub : ∀ t, t ∉ (o :: l.map fun i => ops.getD i default).filterMap (·.dst) → t ∉ (l.map fun i => ops.getD i default).filterMap (·.dst) := fun t hni hm => hni (by
        simp only [List.filterMap_cons]
        split
        · exact hm
        · exact List.mem_cons_of_mem _ hm)
      rcases guard_ok hk hr with ⟨hw, hk1⟩ | ⟨hw, hk1⟩
      · simp only [hw, if_true]
        refine step_ok hrec hpc o hk1 hr _ Q n ro fun v h' κ' val w' h1 h2 h3 h4 h5 => ?_
        refine aopsI_ok hrec hpc ops nf Q n ro rest l h1 (rel_put hr h3 h4 h2 o hd) fun env2 h2 κ2 a2 w2 k1 k2 k3 k4 k5 k6 => ?_
        exact hn env2 h2 κ2 a2 w2 k1 k2 (h4.trans k3) (fun t hni => (k4 t (hsub t hni)).trans (hput v t hni)) (k5.trans (hpd _)) fun e => by cases e
      · simp only [hw, Bool.false_eq_true, if_false]
        refine ⟨fun _ _ => trivial, ?_⟩
        refine aopsI_ok hrec hpc ops nf Q n ro rest l hk1 (rel_put hr hr.heap (Ext.refl _ _ _) (.tuple _ _ rfl fun j x hx => by simp at hx) o hd) fun env2 h2 κ2 a2 w2 k1 k2 k3 k4 k5 k6 => ?_
        exact hn env2 h2 κ2 a2 w2 k1 k2 k3 (fun t hni => (k4 t (hsub t hni)).trans (hput _ t hni)) (k5.trans (hpd _)) fun e => by cases e
    · cases hk

theorem region_ok {C : Cfg} {rec : Rec} {pc : PRec} (hrec : RecOk C.P rec) (hpc : PRecOk C.P pc) (hmix : C.P.follows .mixedOrders = true) {id : Nat} {ops : Array Oper} {draw : Bool} {K : Env → Heap → Option R} {r : R}
    (hk : regionK C rec pc N ops draw env h K = some r) (hr : Rel B N κ env h a w) (Q : Exit → Act → World → Prop) (n : Nat) (ro : Option Nat)
    (hn : NextOps B N κ h w false ops.toList env a K r fun a' w' => Q .normal a' w') : (Code.region id ops draw).wpIn (Fr ro) n C.P Q a w := by
  unfold regionK at hk
  try simp only [cnd_eq] at hk
  cases draw with
  | false =>
    simp only [Bool.false_eq_true, if_false] at hk
    refine wpIn_region ?_
    have := aops_ok hrec hpc ops Q n ro [] ops.toList (List.range ops.size) (by simp) (fun j i o hj ho => by
      have hjl : j < ops.size := by simpa using lt_of_get hj
      rw [List.getElem?_range hjl] at hj
      cases hj
      simpa using ho) hk hr hn
    simpa using this
  | true =>
    simp only [if_true] at hk
    obtain ⟨⟨hdo, hff, hed, hle⟩, hk1⟩ := ite_some hk
    clear hk
    refine wpIn_region_draw fun t => ?_
    have hsch : Region.schedule (C.P.follows .mixedOrders) ops t = Region.linearise .any ops t := by
      simp only [Region.schedule, hmix, Bool.true_or, if_true]
    rw [hsch]
    generalize drawSplit (masks ops) ops.size = m at *
    obtain ⟨p1, p2, p3, p4⟩ := sched_props hed (linearise_sched ops t) (fun i hi => by cases hi)
    obtain ⟨lp, hL, hlpn, hlpm⟩ := forced_tail (n := m) (ops.size - m) (Region.linearise .any ops t) p1 (fun i => by
      constructor
      · intro hi; have := (p2 i hi).2; omega
      · intro hi; exact (p3 i (by omega)).resolve_left (by simp)) (fun l1 x l2 e hx y hy => by
        have hxs : x < ops.size := (p2 x (by rw [e]; simp)).2
        have h1 := (List.all_eq_true.1 hff) x (List.mem_range.2 hxs)
        have h2 : (masks ops).getD x 0 = 2 ^ x - 1 := by
          simp only [Bool.or_eq_true, decide_eq_true_eq, beq_iff_eq] at h1
          exact h1.resolve_left (by omega)
        refine (p4 l1 x l2 e y ?_).resolve_left (by simp)
        rw [h2, Nat.testBit_two_pow_sub_one]
        simpa using hy)
    rw [hL]
    let g : Nat → Oper := fun i => ops.getD i default
    have hos : ∀ (l : List Nat), (∀ i ∈ l, i < ops.size) → ∀ (j i : Nat) (o : Oper), l[j]? = some i → (l.map g)[j]? = some o → ops[i]? = some o := fun l hl j i o hj ho => by
      rw [List.getElem?_map, hj] at ho
      cases ho
      exact getD_oper (hl i (List.mem_of_getElem? hj))
    have hlt : ∀ i ∈ lp, i < ops.size := fun i hi => by have := (hlpm i).1 hi; omega
    have hrun : ∀ s : Env × Heap, lp.foldlM (fun s i => fstep C rec pc N ops (needFree C ops (masks ops) m) i s) s = (List.range m).foldlM (fun s i => fstep C rec pc N ops (needFree C ops (masks ops) m) i s) s := by
      intro s
      refine sort_run (fun i s => fstep C rec pc N ops (needFree C ops (masks ops) m) i s) m lp hlpn hlpm (fun l1 x l2 y e hy hlt2 s => ?_) s
      have hx := (hlpm x).1 (by rw [e]; simp)
      have h1 := (List.all_eq_true.1 ((List.all_eq_true.1 hdo) x (List.mem_range.2 hx))) y (List.mem_range.2 hlt2)
      have h2 : ¬ ((masks ops).getD x 0).testBit y = true := fun hb => by
        have := (p4 l1 x (l2 ++ List.range' m (ops.size - m)) (by rw [hL, e]; simp) y hb).resolve_left (by simp)
        rw [e, List.nodup_append] at hlpn
        exact hlpn.2.2 y this y (by simp [hy]) rfl
      have ex := getD_oper (show x < ops.size by omega)
      have ey := getD_oper (show y < ops.size by omega)
      rw [ex, ey] at h1
      simp only [Bool.or_eq_true, Bool.and_eq_true, Bool.not_eq_true'] at h1
      obtain ⟨hnl, hap⟩ := h1.resolve_left h2
      obtain ⟨q1, q2, q3⟩ := Oper.apart_spec hap
      have hun : unord (masks ops) x y = true := by unfold unord; rw [if_neg (by omega)]; simpa using h2
      have hun' : unord (masks ops) y x = true := by unfold unord; rw [if_pos hlt2]; simpa using h2
      have lx : loudAt C ops x = loudOp C (ops.getD x default).op := by unfold loudAt; rw [ex]
      have ly : loudAt C ops y = loudOp C (ops.getD y default).op := by unfold loudAt; rw [ey]
      cases hlx : loudAt C ops x with
      | true =>
        have hly : loudAt C ops y = false := by rw [hlx] at hnl; simpa using hnl
        have hnf : needFree C ops (masks ops) m y = true := by
          unfold needFree
          refine List.any_eq_true.2 ⟨x, List.mem_range.2 hx, ?_⟩
          simp only [Bool.and_eq_true, bne_iff_ne]
          exact ⟨⟨hlx, by omega⟩, hun'⟩
        exact loud_comm C rec pc N ops _ ex ey q3 (fun d hd hd2 => q2 d hd2 hd) q1 (by rw [← ly]; exact hly) hnf s
      | false =>
        cases hly : loudAt C ops y with
        | true =>
          have hnf : needFree C ops (masks ops) m x = true := by
            unfold needFree
            refine List.any_eq_true.2 ⟨y, List.mem_range.2 (by omega), ?_⟩
            simp only [Bool.and_eq_true, bne_iff_ne]
            exact ⟨⟨hly, by omega⟩, hun⟩
          exact (loud_comm C rec pc N ops _ ey ex q1 q2 q3 (by rw [← lx]; exact hlx) hnf s).symm
        | false => exact (quiet_comm C rec pc N ops _ ey ex q1 q2 q3 (by rw [← ly]; exact hly) (by rw [← lx]; exact hlx) s).symm
    have hk2 : aopsI C rec pc N ops (needFree C ops (masks ops) m) lp env h (fun env' h' => aopsK C rec pc N false ops (ops.toList.drop m) env' h' K) = some r := by
      rw [aopsI_fold] at hk1 ⊢
      rw [hrun]
      exact hk1
    refine aopsI_ok hrec hpc ops _ Q n ro (List.range' m (ops.size - m)) lp hk2 (rel_drew hr) fun env1 h1 κ1 a1 w1 k1 k2 k3 k4 k5 k6 => ?_
    have hx0 := drew_ext hr.heap
    have := aops_ok hrec hpc ops Q n ro [] (ops.toList.drop m) (List.range' m (ops.size - m)) (by simp) (fun j i o hj ho => by
      have hjl : j < ops.size - m := by simpa using lt_of_get hj
      rw [List.getElem?_range' hjl] at hj
      cases hj
      rw [List.getElem?_drop] at ho
      simpa using ho) k1 k2 (fun env2 h2 κ2 a2 w2 j1 j2 j3 j4 j5 j6 => by
        refine hn env2 h2 κ2 a2 w2 j1 j2 ((hx0.trans k3).trans j3) (fun i hni => ?_) (j5.trans k5) (fun e => by cases e)
        have hsub1 : i ∉ (ops.toList.drop m).filterMap (·.dst) := fun hm => hni (by
          rw [List.mem_filterMap] at hm ⊢
          obtain ⟨o, ho, hd⟩ := hm
          exact ⟨o, List.mem_of_mem_drop ho, hd⟩)
        have hsub2 : i ∉ (lp.map g).filterMap (·.dst) := fun hm => hni (by
          rw [List.mem_filterMap] at hm ⊢
          obtain ⟨o, ho, hd⟩ := hm
          obtain ⟨x, hx, rfl⟩ := List.mem_map.1 ho
          refine ⟨g x, ?_, hd⟩
          have := getD_oper (hlt x hx)
          exact List.mem_of_getElem? (i := x) (by rw [Array.getElem?_toList]; exact this))
        exact (j4 i hsub1).trans (k4 i hsub2))
    simpa using this

end Ab
