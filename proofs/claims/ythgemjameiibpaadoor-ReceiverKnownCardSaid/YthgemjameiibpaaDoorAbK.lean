/- Soundness: the operations of a region. -/
import Derived.Test.YthgemjameiibpaaDoorAbJ
namespace Ab
open Go

variable {R : Type} {P : Program} {B : Nat → Prop} {κ : KMap} {h : Heap} {w : World} {N : Nat} {env : Env} {a : Act}

theorem run_callFunc {g : FuncId} (he : enters P g = true) (vs : Array Value) : (callFunc g vs).run P w = .ok (.enter g vs) w := by
  unfold enters at he
  split at he
  · rename_i fn hf
    simp only [Bool.and_eq_true, Bool.not_eq_true'] at he
    obtain ⟨hb, hn⟩ := he
    have hb' : fn.body.isNone = false := by cases h : fn.body <;> simp_all
    simp only [callFunc, Sem.run_bind, run_program, Result.andThen_ok, hf, hn, hb', Bool.false_eq_true, if_false, Sem.run_pure]
  · cases he

theorem cellsRel_append {xs ys : List AV} {us vs : Array Value} (h1 : CellsRel B κ h w xs us) (h2 : CellsRel B κ h w ys vs) : CellsRel B κ h w (xs ++ ys) (us ++ vs) := by
  obtain ⟨us⟩ := us
  obtain ⟨vs⟩ := vs
  have e1 : us.length = xs.length := by simpa using h1.1
  have e2 : vs.length = ys.length := by simpa using h2.1
  have eu : ({ toList := us } : Array Value) = us.toArray := rfl
  have ev : ({ toList := vs } : Array Value) = vs.toArray := rfl
  rw [eu, ev] at *
  have e3 : us.toArray ++ vs.toArray = (us ++ vs).toArray := by simp
  rw [e3]
  refine ⟨by simp [e1, e2], fun j y hy => ?_⟩
  rw [getD_list]
  rcases Nat.lt_or_ge j xs.length with hj | hj
  · rw [List.getElem?_append_left hj] at hy
    have := h1.2 j y hy
    rw [getD_list] at this
    simp only [List.getD] at this ⊢
    rw [List.getElem?_append_left (by omega)]
    exact this
  · rw [List.getElem?_append_right hj] at hy
    have := h2.2 _ y hy
    rw [getD_list] at this
    simp only [List.getD] at this ⊢
    rw [List.getElem?_append_right (by omega), e1]
    exact this

/-- What is known behind an operation. -/
def Next1 (B : Nat → Prop) (κ : KMap) (h : Heap) (w : World) (q : Bool) (K : AV → Heap → Option R) (r : R) (o : Oper) (a : Act) (next : Act → World → Prop) : Prop :=
  ∀ v h' κ' val w', K v h' = some r → VRel B κ' h' w' v val → HRel B κ' h' w' → Ext κ h w κ' h' w' → (q = true → h' = h ∧ κ' = κ) → next (a.put o.dst val) w'

theorem after_next {q : Bool} {K : AV → Heap → Option R} {r : R} {o : Oper} {next : Act → World → Prop} {Q : Exit → Act → World → Prop} (hn : Next1 B κ h w q K r o a next) {e : Ending} {w' : World} (ha : AfterCall B κ h w q K r e w') :
    (match e, w' with
      | .returned v, w'' => next (a.put o.dst v) w''
      | .panicked chain, w'' => Q (.panic chain) a w''
      | .outgrown, _ => LetsOut Q) := by
  obtain ⟨val, v, h', κ', rfl, h1, h2, h3, h4, h5⟩ := ha
  exact hn v h' κ' val w' h1 h2 h3 h4 h5

theorem call_upon {C : Cfg} {rec : Rec} {pc : PRec} (hrec : RecOk C.P rec) (hpc : PRecOk C.P pc) {q : Bool} {f : AV} {args : List AV} {K : AV → Heap → Option R} {r : R} (hr : callK C rec pc q f args h K = some r) (hh : HRel B κ h w)
    {fv : Value} (hf : VRel B κ h w f fv) {vs : Array Value} (hc : CellsRel B κ h w args vs) (o : Oper) (next : Act → World → Prop) (Q : Exit → Act → World → Prop) (n : Nat) (ro : Option Nat) (hn : Next1 B κ h w q K r o a next) :
    o.uponIn (Fr ro) n C.P a next Q ((do let d ← Deferred.ofValue fv vs; invoke d.target d.args : Sem Next).run C.P w) := by
  unfold callK at hr
  try simp only [cnd_eq] at hr
  split at hr
  · rename_i g first captured
    obtain ⟨hent, hr1⟩ := ite_some hr
    cases hf with
    | func _ _ _ fs cs h1 h2 h3 h4 =>
      have hc2 : CellsRel B κ h w (first ++ args ++ captured) (fs ++ vs ++ cs) := cellsRel_append (cellsRel_append ⟨h1, h3⟩ hc) ⟨h2, h4⟩
      have hcall := fcall_ok hrec hpc hr1 hh hc2 (n - 1)
      have hrun : (do let d ← Deferred.ofValue (.func (.func g) fs cs) vs; invoke d.target d.args : Sem Next).run C.P w = .ok (.enter g (fs ++ vs ++ cs)) w := by
        simp [Deferred.ofValue, invoke, run_callFunc hent]
      rw [hrun, Oper.uponIn_enter]
      refine ⟨fun e => by simp [Fr] at e, (CallsIn.fr hcall).mono fun e w' ha => ?_⟩
      have := after_next (Q := Q) hn ha
      cases e <;> exact this
  · rename_i g
    obtain ⟨hent, hr1⟩ := ite_some hr
    cases hf with
    | t _ _ ht =>
      cases ht with
      | const _ _ =>
        have hcall := fcall_ok hrec hpc hr1 hh hc (n - 1)
        have hrun : (do let d ← Deferred.ofValue (.func (.func g) ⟨[]⟩ ⟨[]⟩) vs; invoke d.target d.args : Sem Next).run C.P w = .ok (.enter g vs) w := by
          have e1 : (⟨[]⟩ : Array Value) ++ vs = vs := by simp
          have e2 : vs ++ (⟨[]⟩ : Array Value) = vs := by simp
          simp [Deferred.ofValue, invoke, e1, e2, run_callFunc hent]
        rw [hrun, Oper.uponIn_enter]
        refine ⟨fun e => by simp [Fr] at e, (CallsIn.fr hcall).mono fun e w' ha => ?_⟩
        have := after_next (Q := Q) hn ha
        cases e <;> exact this
  · rename_i i
    split at hr
    · cases hr
    · rename_i hq
      have hy := hrec _ _ _ _ _ hr
      cases hf with
      | yld _ b base hk hb =>
        obtain ⟨f, tmps, assign, body, hrun, hround⟩ := hy B κ w vs b base (n - 1) hh hc hk
        have hrun2 : (do let d ← Deferred.ofValue (.func (.yield b) #[] #[]) vs; invoke d.target d.args : Sem Next).run C.P w = .ok (.round b f tmps assign body) w := by
          simp [Deferred.ofValue, invoke, hrun]
        rw [hrun2, Oper.uponIn_round]
        refine ⟨fun e => by simp [Fr] at e, (RoundIn.fr hround).mono ?_⟩
        rintro e w' ⟨v, κ', rs, h1, rfl, hK, hv, hh', x⟩
        obtain ⟨κ2, y1, y2, y3⟩ := trim_ok (m := h.length) (rs := [rs.getD 0 .undef]) hh' x (Nat.le_refl _) (fun hl => hl 0) hv
        exact hn _ _ _ v w' hK y1 y2 y3 (fun e => (hq e).elim)
  · cases hr

theorem step_ok {C : Cfg} {rec : Rec} {pc : PRec} (hrec : RecOk C.P rec) (hpc : PRecOk C.P pc) {q : Bool} {K : AV → Heap → Option R} {r : R} (o : Oper) (hs : stepK C rec pc q env h o.op K = some r) (hr : Rel B N κ env h a w)
    (next : Act → World → Prop) (Q : Exit → Act → World → Prop) (n : Nat) (ro : Option Nat) (hn : Next1 B κ h w q K r o a next) : o.wpIn (Fr ro) n C.P a w next Q := by
  refine ⟨fun _ _ => trivial, ?_⟩
  have hnd : ∀ c, o.op ≠ .defer c := fun c e => by rw [e] at hs; simp [stepK, isHop, qop] at hs
  rw [Oper.semAt_eq _ _ _ hnd]
  unfold stepK at hs
  try simp only [cnd_eq] at hs
  split at hs
  · split at hs
    · cases hs
    · rename_i hq
      split at hs
      · rename_i t x himm
        have hop : o.op = .box t x := by
          cases hop : o.op <;> rw [hop] at himm <;> simp only [immOf] at himm <;> first | cases himm | (split at himm <;> first | (cases himm; rfl) | cases himm)
        obtain ⟨v, κ', val, w', h1, h2, h3, h4, h5⟩ := boxImm_ok hs hr o hop
        rw [h2, Oper.uponIn_value]; exact hn v h κ' val w' h1 h3 h4 h5 fun e => (hq e).elim
      · rename_i t himm
        have hop : o.op = .alloc t := by
          cases hop : o.op <;> rw [hop] at himm <;> simp only [immOf] at himm <;> first | cases himm | (split at himm <;> first | (cases himm; rfl) | cases himm)
        obtain ⟨v, h', κ', val, w', h1, h2, h3, h4, h5⟩ := allocImm_ok hs hr o hop
        rw [h2, Oper.uponIn_value]; exact hn v h' κ' val w' h1 h3 h4 h5 fun e => (hq e).elim
      · rename_i t p x himm
        have hop : o.op = .store t p x := by
          cases hop : o.op <;> rw [hop] at himm <;> simp only [immOf] at himm <;> first | cases himm | (split at himm <;> first | (cases himm; rfl) | cases himm)
        obtain ⟨h', κ', w', h1, h2, h3, h4⟩ := astore_ok (P := C.P) hs hr.heap (ev_ok hr _) (ev_ok hr _)
        obtain ⟨f1, f2⟩ := freeze1_ok h3 (rptrRow (ev env p))
        have e2 : (execOp a.eval o).run C.P w = .ok .skip w' := by
          unfold execOp
          rw [hop]
          simp [h2]
        rw [e2, Oper.uponIn_skip]
        exact hn _ _ κ' undef w' h1 (.undef _) f1 (h4.trans f2) fun e => (hq e).elim
      · obtain ⟨v, h', κ', val, w', h1, h2, h3, h4, h5⟩ := hop_ok hs hr o rfl
        rcases h2 with h2 | ⟨h2, rfl⟩
        · rw [h2, Oper.uponIn_value]; exact hn v h' κ' val w' h1 h3 h4 h5 fun e => (hq e).elim
        · rw [h2, Oper.uponIn_skip]; exact hn v h' κ' undef w' h1 h3 h4 h5 fun e => (hq e).elim
  · split at hs
    · rename_i f args argTypes ho
      have hx := call_upon hrec hpc hs hr.heap (ev_ok hr f) (evs_ok hr args) o next Q n ro hn
      have he : (execOp a.eval o).run C.P w = (do let d ← Deferred.ofValue (a.eval f) (args.map a.eval); invoke d.target d.args : Sem Next).run C.P w := by
        unfold execOp
        rw [ho]
        simp [resolve]
      rw [he]
      exact hx
    · rename_i t len parts ho
      split at hs
      · split at hs
        · cases hs
        · rename_i hq
          obtain ⟨v, h', κ', val, w', h1, h2, h3, h4, h5⟩ := buildBsl_op hs hr o ho
          rw [h2, Oper.uponIn_value]; exact hn v h' κ' val w' h1 h3 h4 h5 fun e => (hq e).elim
      · obtain ⟨v, val, w', h1, h2, h3, h4, h5⟩ := qop_ok hs hr o ho
        rw [h2, Oper.uponIn_value]
        exact hn v h κ val w' h1 h3 h4 h5 fun _ => ⟨rfl, rfl⟩
    · obtain ⟨v, val, w', h1, h2, h3, h4, h5⟩ := qop_ok hs hr o rfl
      rw [h2, Oper.uponIn_value]
      exact hn v h κ val w' h1 h3 h4 h5 fun _ => ⟨rfl, rfl⟩

/-! ### lists of operations -/
theorem put_same {env : Env} {d : Tmp} {v : AV} (hv : env d = v) : env.put (some d) v = env := by
  funext i
  simp only [Env.put]
  split
  · rename_i e; rw [e, hv]
  · rfl

theorem rel_put (hr : Rel B N κ env h a w) {κ' : KMap} {h' : Heap} {w' : World} (hh : HRel B κ' h' w') (x : Ext κ h w κ' h' w') {v : AV} {val : Value} (hv : VRel B κ' h' w' v val) (o : Oper) (hd : dstOk N o = true) :
    Rel B N κ' (env.put o.dst v) h' (a.put o.dst val) w' := by
  refine ⟨hh, ?_, fun i => ?_⟩
  · cases hdst : o.dst with
    | none => exact hr.size
    | some d => simpa [Act.put] using hr.size
  · cases hdst : o.dst with
    | none => exact (hr.slot i).ext x
    | some d =>
      have hdl : d < N := by simpa [dstOk, hdst] using hd
      have hdt : d < a.tmps.size := by rw [hr.size]; exact hdl
      simp only [Env.put, Act.put]
      by_cases hi : i = d
      · subst hi
        rw [if_pos rfl]
        have : (a.tmps.setIfInBounds i val).getD i undef = val := by simp [Array.getD, hdt]
        rw [this]
        exact hv
      · rw [if_neg hi]
        have : (a.tmps.setIfInBounds d val).getD i undef = a.tmps.getD i undef := by
          by_cases h1 : i < a.tmps.size
          · simp [Array.getD, h1, Ne.symm hi]
          · simp [Array.getD, h1]
        rw [this]
        exact (hr.slot i).ext x

theorem getD_some {arr : Array Value} {d : Nat} {v : Value} (hd : arr.getD d undef = v) (hne : v ≠ undef) : arr[d]? = some v := by
  by_cases h1 : d < arr.size
  · simp only [Array.getD, h1, dif_pos] at hd
    rw [Array.getElem?_eq_getElem h1]
    exact congrArg some hd
  · simp only [Array.getD, h1, dif_neg, not_false_eq_true] at hd
    exact (hne hd.symm).elim

/-- The guard's word, abstract and concrete. -/
theorem guard_ok {ops : Array Oper} {o : Oper} {K1 K0 : Env → Option R} {r : R} (hg : guardK ops o env K1 K0 = some r) (hr : Rel B N κ env h a w) :
    (Region.wanted o (yielded ops a.tmps) = true ∧ K1 env = some r) ∨ (Region.wanted o (yielded ops a.tmps) = false ∧ K0 env = some r) := by
  unfold guardK at hg
  try simp only [cnd_eq] at hg
  unfold Region.wanted
  split at hg
  · rename_i hgd; rw [hgd]; exact .inl ⟨rfl, hg⟩
  · rename_i j want hgd
    rw [hgd]
    simp only
    split at hg
    · rename_i d hd
      split at hg
      · rename_i b hb
        have hv := hr.slot d
        rw [hb] at hv
        have hval : a.tmps.getD d undef = .bool b := by
          generalize a.tmps.getD d undef = u at hv
          cases hv with
          | t _ _ ht => cases ht; rfl
        have hy : yielded ops a.tmps j = some b := by
          unfold yielded
          rw [hd]
          simp only [Option.bind_some]
          rw [getD_some hval (by simp [undef])]
        rw [hy]
        cases b <;> cases want <;> simp only [Bool.false_eq_true, if_false, if_true] at hg <;> rw [put_same hb] at hg
        · exact .inl ⟨rfl, hg⟩
        · exact .inr ⟨rfl, hg⟩
        · exact .inr ⟨rfl, hg⟩
        · exact .inl ⟨rfl, hg⟩
      · rename_i hb
        have hv := hr.slot d
        rw [hb] at hv
        have hval : a.tmps.getD d undef = .tuple #[] := by
          generalize a.tmps.getD d undef = u at hv
          cases hv with
          | tuple _ vs hs _ => rw [Array.eq_empty_of_size_eq_zero hs]
        have hy : yielded ops a.tmps j = none := by
          unfold yielded
          rw [hd]
          simp only [Option.bind_some]
          by_cases h1 : d < a.tmps.size
          · simp only [Array.getD, h1, dif_pos] at hval
            rw [Array.getElem?_eq_getElem h1]
            have : a.tmps[d] = .tuple #[] := hval
            rw [this]
          · rw [Array.getElem?_eq_none (Nat.le_of_not_lt h1)]
        rw [hy]
        exact .inr ⟨rfl, hg⟩
      · cases hg
    · cases hg

/-- What is known behind a list of operations. -/
def NextOps (B : Nat → Prop) (N : Nat) (κ : KMap) (h : Heap) (w : World) (q : Bool) (os : List Oper) (env : Env) (a : Act) (K : Env → Heap → Option R) (r : R) (next : Act → World → Prop) : Prop :=
  ∀ env' h' κ' a' w', K env' h' = some r → Rel B N κ' env' h' a' w' → Ext κ h w κ' h' w' → (∀ i, i ∉ os.filterMap (·.dst) → env' i = env i) → a'.defers = a.defers → (q = true → h' = h ∧ κ' = κ) → next a' w'

theorem aops_ok {C : Cfg} {rec : Rec} {pc : PRec} (hrec : RecOk C.P rec) (hpc : PRecOk C.P pc) {q : Bool} (ops : Array Oper) (Q : Exit → Act → World → Prop) (n : Nat) (ro : Option Nat) (rest : List Nat) :
    ∀ (os : List Oper) (l : List Nat) {K : Env → Heap → Option R} {r : R} {env : Env} {h : Heap} {κ : KMap} {a : Act} {w : World}, l.length = os.length → (∀ (j i : Nat) (o : Oper), l[j]? = some i → os[j]? = some o → ops[i]? = some o) →
      aopsK C rec pc N q ops os env h K = some r → Rel B N κ env h a w → NextOps B N κ h w q os env a K r (wpOpsIn (Fr ro) n C.P ops Q rest) → wpOpsIn (Fr ro) n C.P ops Q (l ++ rest) a w
  | [], l, K, r, env, h, κ, a, w, hl, hi, hk, hr, hn => by
    obtain rfl : l = [] := List.eq_nil_of_length_eq_zero (by simpa using hl)
    exact hn env h κ a w hk hr (Ext.refl _ _ _) (fun _ _ => rfl) rfl fun _ => ⟨rfl, rfl⟩
  | o :: os, l, K, r, env, h, κ, a, w, hl, hi, hk, hr, hn => by
    cases l with
    | nil => simp at hl
    | cons i l =>
      simp only [aopsK, cnd_eq] at hk
      obtain ⟨hd, hk⟩ := ite_some hk
      have ho := hi 0 i o rfl rfl
      have hi' : ∀ (j i : Nat) (o : Oper), l[j]? = some i → os[j]? = some o → ops[i]? = some o := fun j i o h1 h2 => hi (j + 1) i o (by simpa using h1) (by simpa using h2)
      simp only [List.cons_append, wpOpsIn, ho]
      have hput : ∀ (v : AV) (i : Tmp), i ∉ (o :: os).filterMap (·.dst) → (env.put o.dst v) i = env i := fun v i hni => by
        cases hdst : o.dst with
        | none => rfl
        | some d =>
          simp only [Env.put]
          rw [if_neg fun e => hni (by simp [hdst, e])]
      have hpd : ∀ val, (a.put o.dst val).defers = a.defers := fun val => by cases o.dst <;> rfl
      have hsub : ∀ i, i ∉ (o :: os).filterMap (·.dst) → i ∉ os.filterMap (·.dst) := fun i hni hm => hni (by
        simp only [List.filterMap_cons]
        split
        · exact hm
        · exact List.mem_cons_of_mem _ hm)
      rcases guard_ok hk hr with ⟨hw, hk1⟩ | ⟨hw, hk1⟩
      · simp only [hw, if_true]
        refine step_ok hrec hpc o hk1 hr _ Q n ro fun v h' κ' val w' h1 h2 h3 h4 h5 => ?_
        refine aops_ok hrec hpc ops Q n ro rest os l (by simpa using hl) hi' h1 (rel_put hr h3 h4 h2 o hd) fun env2 h2 κ2 a2 w2 k1 k2 k3 k4 k5 k6 => ?_
        exact hn env2 h2 κ2 a2 w2 k1 k2 (h4.trans k3) (fun i hni => (k4 i (hsub i hni)).trans (hput v i hni)) (k5.trans (hpd _)) fun e => by
          obtain ⟨e1, e2⟩ := h5 e
          obtain ⟨e3, e4⟩ := k6 e
          exact ⟨e3.trans e1, e4.trans e2⟩
      · simp only [hw, Bool.false_eq_true, if_false]
        refine ⟨fun _ _ => trivial, ?_⟩
        refine aops_ok hrec hpc ops Q n ro rest os l (by simpa using hl) hi' hk1 (rel_put hr hr.heap (Ext.refl _ _ _) (.tuple _ _ rfl fun j x hx => by simp at hx) o hd) fun env2 h2 κ2 a2 w2 k1 k2 k3 k4 k5 k6 => ?_
        exact hn env2 h2 κ2 a2 w2 k1 k2 k3 (fun i hni => (k4 i (hsub i hni)).trans (hput _ i hni)) (k5.trans (hpd _)) k6

end Ab
