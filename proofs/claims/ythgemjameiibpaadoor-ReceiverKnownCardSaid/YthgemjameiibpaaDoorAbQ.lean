/- Soundness: ranges over functions, rounds. -/
import Derived.Test.YthgemjameiibpaaDoorAbP
import Derived.RangeFuncNested
set_option linter.unusedVariables false
set_option linter.unusedSimpArgs false
namespace Ab
open Go

variable {R : Type} {B : Nat → Prop} {κ : KMap} {h : Heap} {w : World} {N : Nat} {env : Env} {a : Act} {ro : Option Nat} {base : Nat}

theorem loop_push (hr : Rel B N κ env h a w) {w1 : World} {l d : Nat} {fn f : FuncId} {params : Array Tmp} {assign body : Code} {LR : LoopRec} (hLR : LR = { fn, size := N, env, params := params.toList, assign, body, busy := false, pending := none, ended := false, hl := h.length }) (h1 : w1.os = w.os) (h2 : w1.tape = w.tape) (h3 : w1.output = w.output) (h4 : w.heap.size ≤ w1.heap.size)
    (h5 : ∀ b, b < w.heap.size → w1.heap[b]? = w.heap[b]?) (hl : w.heap.size ≤ l) (hl1 : l < w1.heap.size) (hld : d ≠ l) (hd : w1.heap[d]? = some (.deferred (some []))) (hnd : ¬ Ex κ h d)
    (hlo : w1.heap[l]? = some (.loop { state := .ready, pending := none, fn := f, tmps := a.tmps, params, assign, body, defers := d })) :
    HRel B (κ ++ [some (l, d)]) (h ++ [.loop LR]) w1 ∧
    Ext κ h w (κ ++ [some (l, d)]) (h ++ [.loop LR]) w1 := by
  have x : Ext κ h w (κ ++ [some (l, d)]) (h ++ [.loop LR]) w1 :=
    push_ext hr.heap h1 h2 h3 h4 h5 (fun b bs e => by cases e; exact hl)
  refine ⟨push_hrel hr.heap h5 x (fun b bs e => by cases e; exact ⟨hl, hl1⟩) ?_, x⟩
  subst hLR
  refine ⟨f, a.tmps, ?_, hr.size, fun i => (hr.slot i).ext x, fun i => (hr.slot i).refs, hd, ?_⟩
  · simpa using hlo
  · rintro ⟨i, bs, o, k1, k2, k3⟩
    rcases snoc_get κ _ i k1 with ⟨_, k1⟩ | ⟨rfl, e⟩
    · rcases snoc_get h _ i k2 with ⟨_, k2⟩ | ⟨rfl, e⟩
      · exact hnd ⟨i, bs, o, k1, k2, k3⟩
      · have := lt_of_get k1
        rw [hr.heap.len] at this
        omega
    · cases e; exact hld rfl

/-- A loop's record is turned. -/
theorem loop_upd (hh : HRel B κ h w) {i b d : Nat} {l l' : LoopRec} (hi : h[i]? = some (.loop l)) (hk : κ[i]? = some (some (b, d))) (hrec : (AObj.loop l').rec? = (AObj.loop l).rec?) :
    ∃ (f : FuncId) (tmps : Array Value) (r : Loop), w.heap[b]? = some (.loop r) ∧ r = { state := if l.ended then .exhausted else if l.busy then .busy else if l.pending.isSome then .done else .ready, pending := l.pending, fn := f, tmps, params := l.params.toArray, assign := l.assign, body := l.body, defers := d } ∧
      tmps.size = l.size ∧ (∀ j, VRel B κ h w (l.env j) (tmps.getD j undef)) ∧ w.heap[d]? = some (.deferred (some [])) ∧
      ∀ (o : Obj), o = .loop { r with state := if l'.ended then .exhausted else if l'.busy then .busy else if l'.pending.isSome then .done else .ready, pending := l'.pending } →
        HRel B κ (h.set i (.loop l')) (w.putObj b o) ∧ Ext κ h w κ (h.set i (.loop l')) (w.putObj b o) := by
  have ho := hh.obj i _ _ hi hk
  obtain ⟨f, tmps, h1, h2, h3, h4, h5, h6⟩ := ho
  refine ⟨f, tmps, _, h1, rfl, h2, h3, h5, ?_⟩
  intro o ho
  have hlt := heap_lt h1
  have hset : κ.set i (some (b, d)) = κ := by
    apply List.ext_getElem?
    intro j
    by_cases hij : j = i
    · rw [hij, set_new hk, hk]
    · rw [set_old hij]
  have hne : ∀ b', b' < w.heap.size → (∀ bs, (some (b, d) : Option (Nat × Nat)) ≠ some (b', bs)) → (w.putObj b o).heap[b']? = w.heap[b']? := fun b' _ hn => World.putObj_heap_other fun e => hn d (by rw [e])
  have x : Ext κ h w κ (h.set i (.loop l')) (w.putObj b o) := by
    have x' : Ext κ h w (κ.set i (some (b, d))) (h.set i (.loop l')) (w.putObj b o) :=
      upd_ext (o := .loop l) (o' := .loop l') (k := some (b, d)) hh hi rfl ⟨rfl, Nat.le_refl _, fun _ => ⟨rfl, rfl⟩, fun e => (by cases e), fun e => (by cases e), hrec⟩ hk rfl rfl rfl (by simp) hne (fun b' bs e => .inl ⟨bs, e⟩)
        (fun _ => ⟨rfl, fun b' bs e cells elem fr hc => by
          cases e
          rw [World.putObj_heap_same hlt] at hc
          rw [ho] at hc
          cases hc⟩)
    rw [hset] at x'
    exact x'
  refine ⟨?_, x⟩
  have hbd : d ≠ b := fun e => by rw [e] at h5; rw [h1] at h5; cases h5
  have hre := hrec
  simp only [AObj.rec?, Option.some.injEq] at hre
  have hr1 : l'.size = l.size := by have := congrArg LoopRec.size hre; exact this
  have hr2 : l'.env = l.env := by have := congrArg LoopRec.env hre; exact this
  have hr3 : l'.params = l.params := by have := congrArg LoopRec.params hre; exact this
  have hr4 : l'.assign = l.assign := by have := congrArg LoopRec.assign hre; exact this
  have hr5 : l'.body = l.body := by have := congrArg LoopRec.body hre; exact this
  have hr6 : l'.hl = l.hl := by have := congrArg LoopRec.hl hre; exact this
  have hh' : HRel B (κ.set i (some (b, d))) (h.set i (.loop l')) (w.putObj b o) :=
    upd_hrel hh hi hk hne (fun b' bs e => ⟨.inl ⟨bs, e⟩, by cases e; simpa using hlt⟩) (by rw [hset]; exact x) (by
      rw [hset]
      refine ⟨f, tmps, ?_, h2.trans hr1.symm, fun j => by rw [hr2]; exact (h3 j).ext x, fun j => by rw [hr2, hr6]; exact h4 j, (World.putObj_heap_other hbd).trans h5, fun he => ?_⟩
      · rw [World.putObj_heap_same hlt, ho, hr3, hr4, hr5]
      · rcases x.ex d he with y | y
        · exact h6 y
        · have := heap_lt h5; omega)
  rw [hset] at hh'
  exact hh'

theorem take_set {α : Type} {l : List α} {m i : Nat} {x : α} (hi : m ≤ i) : (l.set i x).take m = l.take m := by
  apply List.ext_getElem?
  intro j
  rcases Nat.lt_or_ge j m with hj | hj
  · rw [List.getElem?_take_of_lt hj, List.getElem?_take_of_lt hj, set_old (by omega)]
  · simp [List.getElem?_take, Nat.not_lt.2 hj]

theorem map_mark_inj : ∀ {xs ys : List Nat}, xs.map mark = ys.map mark → xs = ys
  | [], [], _ => rfl
  | [], y :: ys, h => by simp at h
  | x :: xs, [], h => by simp at h
  | x :: xs, y :: ys, h => by
    simp only [List.map_cons, List.cons.injEq] at h
    have h1 : x = y := by
      have := congrArg Deferred.target h.1
      simpa [mark] using this
    rw [h1, map_mark_inj h.2]

theorem range_ok {C : Cfg} {fn : FuncId} {rec : Rec} (hrec : RecOk C.P rec) : RangeOk C fn N rec := by
  intro R B ro base n f params assign body env h K r κ a w hk hs
  split at hk
  · rename_i g first captured hfv
    split at hk
    · cases hk
    · rename_i hent
      have hent' : enters C.P g = true := by simpa using hent
      obtain ⟨LR, hLR⟩ : ∃ LR : LoopRec, LR = { fn, size := N, env, params := params.toList, assign, body, busy := false, pending := none, ended := false, hl := h.length } := ⟨_, rfl⟩
      rw [← hLR] at hk
      have hcall := hrec _ _ _ _ _ hk
      dsimp only at hcall
      have hval := ev_ok hs.rel f
      rw [hfv] at hval
      generalize hav : a.eval f = fv at hval
      cases hval with
      | func _ _ _ fs cs q1 q2 q3 q4 =>
        have go : ∀ (fn0 : FuncId) (l d : Nat) (mk : List Deferred) (w1 : World), (Instr.enterLoop fn0 a.tmps params assign body ro).run C.P w = .ok (l, mk) w1 → w1.os = w.os → w1.tape = w.tape → w1.output = w.output → w.heap.size ≤ w1.heap.size →
            (∀ b, b < w.heap.size → w1.heap[b]? = w.heap[b]?) → w.heap.size ≤ l → l < w1.heap.size → d ≠ l → w1.heap[d]? = some (.deferred (some [])) → ¬ Ex κ h d →
            w1.heap[l]? = some (.loop { state := .ready, pending := none, fn := fn0, tmps := a.tmps, params, assign, body, defers := d }) →
            (∀ κ4 h4 w4, Ext κ h w κ4 h4 w4 → w4.heap[d]? = some (.deferred (some [])) → ¬ Ex κ4 h4 d → Marks base κ4 h4 w4 (mk ++ a.defers)) →
            ∃ (l : Nat) (mark : List Deferred) (w₁ : World) (d : Deferred) (w₁' : World) (f' : FuncId) (args : Array Value) (w₂ : World),
              (Instr.enterLoop fn0 a.tmps params assign body (Fr ro).round).run C.P w = .ok (l, mark) w₁ ∧
              (resolve a.eval (rangeCall f l) 0).run C.P w₁ = .ok d w₁' ∧
              (∀ f', Target.leads C.P w₁' d.target d.args = some f' → (Fr ro).fn f') ∧
              (invoke d.target d.args).run C.P w₁' = .ok (.enter f' args) w₂ ∧
              ((Fr ro).depth.isSome = true → 1 ≤ n) ∧
              CallsIn (Fr ro) (n - 1) C.P f' args w₂ (rangePost (Fr ro) n C.P l (Post B N ro base κ env h w [] K r) { a with defers := mark ++ a.defers }) := by
          intro fn0 l d mk w1 he o1 o2 o3 o4 o5 o6 o7 o8 o9 o10 o11 hmarks
          obtain ⟨hh1, x1⟩ := loop_push hs.rel hLR o1 o2 o3 o4 o5 o6 o7 o8 o9 o10 o11
          have hyl : VRel B (κ ++ [some (l, d)]) (h ++ [.loop LR]) w1 (.yld h.length) (.func (.yield l) #[] #[]) :=
            .yld _ l d (by rw [← hs.rel.heap.len]; exact snoc_new κ _) ⟨_, snoc_new h _⟩
          have hc : CellsRel B (κ ++ [some (l, d)]) (h ++ [.loop LR]) w1 (first ++ [.yld h.length] ++ captured) (fs ++ #[.func (.yield l) #[] #[]] ++ cs) :=
            cellsRel_append (cellsRel_append ⟨q1, fun j x hx => (q3 j x hx).ext x1⟩ ⟨rfl, fun j x hx => by
              cases j with
              | zero => cases hx; exact hyl
              | succ j => simp at hx⟩) ⟨q2, fun j x hx => (q4 j x hx).ext x1⟩
          have hcl := hcall B _ w1 _ (n - 1) hh1 hc
          refine ⟨l, mk, w1, { target := .fn (.func g) cs, args := fs ++ #[.func (.yield l) #[] #[]] }, w1, g, fs ++ #[.func (.yield l) #[] #[]] ++ cs, w1, he, ?_, fun _ _ => trivial, ?_, fun e => (by simp [Fr] at e), ?_⟩
          · have e1 : a.eval (.const (.func (.yield l) #[] #[])) = .func (.yield l) #[] #[] := rfl
            simp [resolve, hav, e1, Deferred.ofValue]
          · simp [invoke, run_callFunc hent']
          · refine (CallsIn.fr hcl).mono ?_
            rintro e w3 ⟨v, rv, κ3, rs, h2, rfl, hK, hm, hv, hh3, x3⟩
            obtain ⟨j, hj, hk2⟩ := bind_some hK
            unfold jumpOf at hj
            split at hj
            · rename_i l2 hl2
              split at hj
              · cases hj
              · rename_i hbe
                simp only [Bool.or_eq_true, not_or, Bool.not_eq_true] at hbe
                cases hj
                obtain ⟨k3, k1⟩ := ite_some hk2
                have hk3 : κ3[h.length]? = some (some (l, d)) := (x3.kap h.length _ _ (snoc_new h _) hl2 rfl).trans (by rw [← hs.rel.heap.len]; exact snoc_new κ _)
                obtain ⟨f3, tmps3, r3, g1, g2, g3, g4, g5, g6⟩ := loop_upd (l' := { l2 with ended := true }) hh3 hl2 hk3 rfl
                have hst : r3.state ≠ .busy := by rw [g2, hbe.1, hbe.2]; simp only [Bool.false_eq_true, if_false]; split <;> simp
                have hpe : r3.pending = l2.pending := by rw [g2]
                obtain ⟨hh4, x4⟩ := g6 (.loop { r3 with state := .exhausted }) (by rw [g2]; simp)
                have x5 := (x1.trans x3).trans x4
                have htk : (h2.set h.length (.loop { l2 with ended := true })).take h.length = h2.take h.length := take_set (Nat.le_refl _)
                have x6 := x5.trunc (m := h.length) (Nat.le_refl _)
                rw [htk] at x6
                have hh6 := hh4.trunc (m := h.length) (by rw [htk]; exact k3)
                rw [htk] at hh6
                have hlo4 := hh4.obj h.length _ _ (set_new hl2) hk3
                obtain ⟨_, _, _, _, _, _, d1, d2⟩ := hlo4
                have hst6 : St B N ro base (κ3.take h.length) env (h2.take h.length) { a with defers := mk ++ a.defers } (w3.putObj l (.loop { r3 with state := .exhausted })) := by
                  refine ⟨⟨hh6, hs.rel.size, fun i => ?_⟩, hmarks _ _ _ x6 d1 fun he => d2 ?_, hs.round.ext x6, Nat.le_trans hs.bsz x6.size⟩
                  · have := ((hs.rel.slot i).ext x5).trunc (m := h.length) (hs.rel.slot i).refs
                    rw [htk] at this
                    exact this
                  · rw [← htk] at he; exact he.take
                refine ⟨l2.pending, w3.putObj l (.loop { r3 with state := .exhausted }), (run_endLoop g1 hst).trans (congrArg (fun z => Result.ok z (w3.putObj l (.loop { r3 with state := .exhausted }))) hpe), ?_⟩
                cases hpd : l2.pending with
                | none =>
                  rw [hpd] at k1
                  exact ⟨_, _, _, k1, hst6, x6, fun _ _ => rfl⟩
                | some c =>
                  rw [hpd] at k1
                  obtain ⟨e, he2, k1⟩ := bind_some k1
                  cases c <;> simp only [exitOf] at he2 <;> first | cases he2 | skip
                  · exact wpIn_exit ⟨_, _, _, k1, hst6, x6, fun _ _ => rfl⟩
                  · exact wpIn_ret ⟨_, _, _, k1, hst6, x6, fun _ _ => rfl⟩
            · cases hj
        refine wpIn_rangeFunc fun fn0 _ => ?_
        cases ro with
        | none =>
          refine go fn0 (w.heap.size + 1) w.heap.size _ _ (run_enterLoop_outer fn0 a.tmps params assign body) rfl rfl rfl (by simp [World.size_alloc]; omega) (fun b hb => ?_) (by omega) (by simp [World.size_alloc]) (by omega) ?_ ?_ ?_ ?_
          · rw [heap_alloc_lt _ _ (by simp; omega), heap_alloc_lt _ _ hb]
          · rw [heap_alloc_lt _ _ (by simp)]; exact World.alloc_heap_new _ _
          · rintro ⟨i, bs, o, y1, y2, y3⟩
            have := hs.rel.heap.lt i _ _ y1
            omega
          · have := World.alloc_heap_new (w.alloc (.deferred (some []))) (.loop { state := .ready, pending := none, fn := fn0, tmps := a.tmps, params := params, assign := assign, body := body, defers := w.heap.size })
            rw [World.size_alloc] at this
            exact this
          · intro κ4 h4 w4 x y1 y2
            obtain ⟨rs4, z1, z2, z3⟩ := hs.marks.ext x
            obtain ⟨rs5, z4, z5, z6⟩ := hs.marks
            refine ⟨w.heap.size :: rs5, by rw [z4]; rfl, ?_, fun q hq => ?_⟩
            · refine List.nodup_cons.2 ⟨fun hm => ?_, z5⟩
              have := heap_lt (z6 _ hm).2.1
              omega
            · rcases List.mem_cons.1 hq with rfl | hq
              · exact ⟨hs.bsz, y1, y2⟩
              · have e : rs5 = rs4 := by
                  have e1 : rs5.map mark = rs4.map mark := z4.symm.trans z1
                  exact map_mark_inj e1
                rw [e] at hq
                exact z3 q hq
        | some b0 =>
          obtain ⟨i, d, l0, r1, r2⟩ := hs.round b0 rfl
          obtain ⟨f0, t0, e1, e2, e3, e4, e5, e6⟩ := hs.rel.heap.obj i _ _ r2 r1
          refine go fn0 w.heap.size d _ _ (run_enterLoop_inner e1 fn0 a.tmps params assign body) rfl rfl rfl (by simp [World.size_alloc]) (fun b hb => ?_) (Nat.le_refl _) (by simp [World.size_alloc]) ?_ ?_ e6 ?_ ?_
          · exact heap_alloc_lt _ _ hb
          · have := heap_lt e5; omega
          · rw [heap_alloc_lt _ _ (heap_lt e5)]; exact e5
          · exact World.alloc_heap_new _ _
          · intro κ4 h4 w4 x _ _
            exact hs.marks.ext x
  · cases hk

end Ab
