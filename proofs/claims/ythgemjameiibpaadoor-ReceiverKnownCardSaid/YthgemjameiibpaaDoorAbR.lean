/- Soundness: rounds, functions, levels. -/
import Derived.Test.YthgemjameiibpaaDoorAbQ
set_option linter.unusedVariables false
set_option linter.unusedSimpArgs false
namespace Ab
open Go

variable {R : Type} {P : Program} {B : Nat → Prop} {κ : KMap} {h : Heap} {w : World} {N : Nat} {env : Env} {a : Act} {ro : Option Nat} {base : Nat}

/-! ### rounds -/
theorem putAll_ok : ∀ (ps : List Tmp) (args : List AV) (us : List Value) (env : Env) (tmps : Array Value), args.length = ps.length → us.length = ps.length → (∀ t ∈ ps, t < tmps.size) → (∀ j x, args[j]? = some x → VRel B κ h w x (us.getD j undef)) →
    (∀ i, VRel B κ h w (env i) (tmps.getD i undef)) → ((ps.zip us).foldl (fun (tmps : Array Value) (p : Tmp × Value) => tmps.setIfInBounds p.1 p.2) tmps).size = tmps.size ∧ ∀ i, VRel B κ h w (putAll env ps args i) (((ps.zip us).foldl (fun (tmps : Array Value) (p : Tmp × Value) => tmps.setIfInBounds p.1 p.2) tmps).getD i undef)
  | [], [], [], env, tmps, _, _, _, _, hv => ⟨rfl, hv⟩
  | [], x :: args, us, env, tmps, h1, _, _, _, _ => by simp at h1
  | [], [], u :: us, env, tmps, _, h2, _, _, _ => by simp at h2
  | p :: ps, [], us, env, tmps, h1, _, _, _, _ => by simp at h1
  | p :: ps, x :: args, [], env, tmps, _, h2, _, _, _ => by simp at h2
  | p :: ps, x :: args, u :: us, env, tmps, h1, h2, hlt, ha, hv => by
    have hp : p < tmps.size := hlt p (by simp)
    obtain ⟨e1, e2⟩ := putAll_ok ps args us (env.put (some p) x) (tmps.setIfInBounds p u) (by simpa using h1) (by simpa using h2) (fun t ht => by simpa using hlt t (by simp [ht]))
      (fun j y hy => by simpa using ha (j + 1) y (by simpa using hy)) (fun i => by
        simp only [Env.put]
        by_cases hi : i = p
        · subst hi
          rw [if_pos rfl]
          have : (tmps.setIfInBounds i u).getD i undef = u := by simp [Array.getD, hp]
          rw [this]
          simpa using ha 0 x rfl
        · rw [if_neg hi]
          have : (tmps.setIfInBounds p u).getD i undef = tmps.getD i undef := by
            simp only [Array.getD_eq_getD_getElem?]
            rw [Array.getElem?_setIfInBounds_ne (Ne.symm hi)]
          rw [this]
          exact hv i)
    refine ⟨by simpa using e1, fun i => ?_⟩
    simpa [putAll] using e2 i

theorem setBusy_eq {i : Nat} {l : LoopRec} (hi : h[i]? = some (.loop l)) (bz : Bool) (pd : Option Code) : setBusy h i bz pd = h.set i (.loop { l with busy := bz, pending := pd }) := by
  unfold setBusy; rw [hi]

theorem openAt_ok {i : Nat} (ho : openAt h i = true) : ∃ l, h[i]? = some (.loop l) ∧ l.ended = false := by
  unfold openAt at ho
  split at ho
  · rename_i l hl; exact ⟨l, hl, by simpa using ho⟩
  · cases ho
theorem readyAt_ok {i : Nat} (ho : readyAt h i = true) : ∃ l, h[i]? = some (.loop l) ∧ l.ended = false ∧ l.busy = false ∧ l.pending = none := by
  unfold readyAt at ho
  split at ho
  · rename_i l hl
    simp only [Bool.and_eq_true, Bool.not_eq_true', Option.isNone_iff_eq_none] at ho
    exact ⟨l, hl, ho.1.1, ho.1.2, ho.2⟩
  · cases ho

theorem end_round {i b d : Nat} (hh : HRel B κ h w) (ho : openAt h i = true) (hk : κ[i]? = some (some (b, d))) (jump : Option Code) :
    ∃ w', (Instr.endRound b jump).run P w = .ok (.bool jump.isNone) w' ∧ HRel B κ (setBusy h i false jump) w' ∧ Ext κ h w κ (setBusy h i false jump) w' := by
  obtain ⟨l, hl, he⟩ := openAt_ok ho
  obtain ⟨f3, tmps3, r3, g1, g2, g3, g4, g5, g6⟩ := loop_upd (l' := { l with busy := false, pending := jump }) hh hl hk rfl
  obtain ⟨hh4, x4⟩ := g6 (.loop { r3 with state := if jump.isNone then .ready else .done, pending := jump }) (by
    cases jump <;> simp [he])
  rw [setBusy_eq hl]
  exact ⟨_, run_endRound jump g1, hh4, x4⟩

theorem round_ok {C : Cfg} {rec : Rec} {pc : PRec} (hrec : RecOk C.P rec) (hpc : PRecOk C.P pc) (hmix : C.P.follows .mixedOrders = true) {m i : Nat} {args : List AV} {K : List AV → Heap → Option R} {res : R} (hk : roundK C rec pc m i args h K = some res) : YieldOk C.P i args h K res := by
  intro B κ w vs b d n hh hc hki
  unfold roundK at hk
  try simp only [cnd_eq] at hk
  split at hk
  · rename_i l hi
    obtain ⟨⟨hb, he, hp, hal, hpl⟩, hk1⟩ := ite_some hk
    obtain ⟨f, tmps, h1, h2, h3, h4, h5, h6⟩ := hh.obj i _ _ hi hki
    have hpn : l.pending = none := by simpa using hp
    have h1' : w.heap[b]? = some (.loop { state := .ready, pending := none, fn := f, tmps, params := l.params.toArray, assign := l.assign, body := l.body, defers := d }) := by
      rw [h1, he, hb, hpn]; rfl
    have hsz : vs.size = l.params.length := hc.1.trans hal
    have hfold : (l.params.toArray.zip vs).foldl (fun tmps (t, a) => tmps.setIfInBounds t a) tmps = (l.params.zip vs.toList).foldl (fun (tmps : Array Value) (p : Tmp × Value) => tmps.setIfInBounds p.1 p.2) tmps := by
      obtain ⟨us⟩ := vs
      have e : l.params.toArray.zip ({ toList := us } : Array Value) = (l.params.zip us).toArray := List.zip_toArray ..
      rw [e]
      simp
    obtain ⟨p1, p2⟩ := putAll_ok l.params args vs.toList l.env tmps hal (by simpa using hsz) (fun t ht => by
        rw [h2]
        have := List.all_eq_true.1 hpl t ht
        simpa using this) (fun j x hx => by
        have := hc.2 j x hx
        rw [← Array.toArray_toList (xs := vs), getD_list] at this
        exact this) h3
    refine ⟨f, _, l.assign, l.body, run_yield h1' (by simpa using hsz), ?_⟩
    rw [hfold]
    refine roundIn_of_wpIn trivial ?_
    have hs : St B l.size (some b) w.heap.size κ (putAll l.env l.params args) h { tmps := (l.params.zip vs.toList).foldl (fun (tmps : Array Value) (p : Tmp × Value) => tmps.setIfInBounds p.1 p.2) tmps, defers := [] } w :=
      ⟨⟨hh, p1.trans h2, p2⟩, ⟨[], rfl, List.nodup_nil, fun r hr => by simp at hr⟩, fun b' hb' => by cases hb'; exact ⟨i, d, l, hki, hi⟩, Nat.le_refl _⟩
    refine wpIn_mono (aexec_ok (C := C.at l.fn) hrec hpc hmix (range_ok hrec) n l.assign hk1 hs) fun e a1 w1 hp1 => ?_
    obtain ⟨env1, ha, κ1, j1, j2, j3, j4⟩ := hp1
    cases e with
    | normal =>
      dsimp only at j1
      obtain ⟨hrd, j1⟩ := ite_some j1
      obtain ⟨l1, hl1, r1, r2, r3⟩ := readyAt_ok hrd
      have hk1' : κ1[i]? = some (some (b, d)) := (j3.kap i _ _ hi hl1 rfl).trans hki
      obtain ⟨f3, tmps3, rr, g1, g2, g3, g4, g5, g6⟩ := loop_upd (l' := { l1 with busy := true, pending := none }) j2.rel.heap hl1 hk1' rfl
      obtain ⟨hh4, x4⟩ := g6 (.loop { rr with state := .busy }) (by rw [g2]; simp [r1, r3])
      rw [setBusy_eq hl1] at j1
      refine ⟨_, run_beginRound g1 (by rw [g2]; simp [r1, r2, r3]), ?_⟩
      have hs4 : St B l.size (some b) w.heap.size κ1 env1 (ha.set i (.loop { l1 with busy := true, pending := none })) a1 (w1.putObj b (.loop { rr with state := .busy })) :=
        j2.next ⟨hh4, j2.rel.size, fun j => (j2.rel.slot j).ext x4⟩ x4 rfl
      refine wpIn_mono (aexec_ok (C := C.at l.fn) hrec hpc hmix (range_ok hrec) n l.body j1 hs4) fun e a2 w2 hp2 => ?_
      obtain ⟨env2, hb2, κ2, q1, q2, q3, q4⟩ := hp2
      obtain ⟨hop, q1⟩ := ite_some q1
      obtain ⟨l5, hl5, _⟩ := openAt_ok hop
      have hk2' : κ2[i]? = some (some (b, d)) := (q3.kap i _ _ (set_new hl1) hl5 rfl).trans hk1'
      cases e with
      | normal =>
        obtain ⟨w6, e1, e2, e3⟩ := end_round (P := C.P) q2.rel.heap hop hk2' none
        exact ⟨_, w6, e1, _, κ2, _, _, rfl, q1, .t _ _ (.bool _), e2, ((j3.trans x4).trans q3).trans e3⟩
      | ret =>
        obtain ⟨w6, e1, e2, e3⟩ := end_round (P := C.P) q2.rel.heap hop hk2' (some .ret)
        exact ⟨_, w6, e1, _, κ2, _, _, rfl, q1, .t _ _ (.bool _), e2, ((j3.trans x4).trans q3).trans e3⟩
      | exit id =>
        obtain ⟨w6, e1, e2, e3⟩ := end_round (P := C.P) q2.rel.heap hop hk2' (some (.exit id))
        exact ⟨_, w6, e1, _, κ2, _, _, rfl, q1, .t _ _ (.bool _), e2, ((j3.trans x4).trans q3).trans e3⟩
      | goto t => cases q1
      | panic ch => cases q1
      | outgrown => cases q1
    | exit id => cases j1
    | goto t => cases j1
    | ret => cases j1
    | panic ch => cases j1
    | outgrown => cases j1
  · cases hk

/-! ### a block of deferred calls is shut -/
structure CellEq (w w' : World) : Prop where
  size : w'.heap.size = w.heap.size
  blk : ∀ (b : Nat) cells elem fr, w'.heap[b]? = some (.cells cells elem fr) ↔ w.heap[b]? = some (.cells cells elem fr)
  mp : ∀ (b : Nat) es clock, w.heap[b]? = some (.map es clock) → w'.heap[b]? = some (.map es clock)

theorem CellEq.cell {w' : World} (c : CellEq w w') (x : Addr) : w'.cell? x = w.cell? x := by
  unfold World.cell?
  cases h1 : w'.heap[x.block]? with
  | none =>
    cases h2 : w.heap[x.block]? with
    | none => rfl
    | some o =>
      cases o with
      | cells cs e f => rw [(c.blk _ cs e f).2 h2] at h1; cases h1
      | _ => rfl
  | some o =>
    cases o with
    | cells cs e f => rw [(c.blk _ cs e f).1 h1]
    | _ =>
      cases h2 : w.heap[x.block]? with
      | none => rfl
      | some o' =>
        cases o' with
        | cells cs e f => rw [(c.blk _ cs e f).2 h2] at h1; cases h1
        | _ => rfl

theorem TRel.cellEq {w' : World} (c : CellEq w w') {A : Nat → Prop} {x : Tree} {v : Value} (hx : TRel w A x v) : TRel w' A x v := by
  induction hx with
  | int k n => exact .int k n
  | bool b => exact .bool b
  | str s => exact .str s
  | const v h => exact .const v h
  | mp k m b es clock h1 h2 h3 h4 => exact .mp k m b es clock (by rw [c.size]; exact h1) h2 (c.mp _ _ _ h3) h4
  | nil size cap a => exact .nil size cap a
  | sl size es b off cap u h1 h2 h3 h4 h5 _ ih => exact .sl size es b off cap u h1 (by rw [c.size]; exact h2) h3 h4 (fun j e cc x he hx => (c.cell _).trans (h5 j e cc x he hx)) ih

theorem VRel.cellEq {w' : World} (c : CellEq w w') {x : AV} {v : Value} (hx : VRel B κ h w x v) : VRel B κ h w' x v := by
  induction hx with
  | undef v => exact .undef v
  | t y v ht => exact .t y v (ht.cellEq c)
  | nilsl a => exact .nilsl a
  | ptr i off b base hk hb => exact .ptr _ _ _ _ hk hb
  | rptr i ver k off v h1 hex hv => exact .rptr _ _ _ _ _ h1 hex hv
  | eptr size cells off b base u h1 h2 h3 h4 h5 => exact .eptr _ _ _ _ _ u h1 (by rw [c.size]; exact h2) h3 (fun j y hy => (c.cell _).trans (h4 j y hy)) fun j y hy => (h5 j y hy).cellEq c
  | sref i ver off len v h1 hex hs =>
    refine .sref _ _ _ _ _ h1 hex fun k o hk ho he => ?_
    obtain ⟨e1, e2, e3⟩ := hs k o hk ho he
    refine ⟨e1, e2, ?_⟩
    cases k with
    | none => exact e3
    | some p =>
      obtain ⟨b, bs⟩ := p
      obtain ⟨cap, f1, f2, f3⟩ := e3
      exact ⟨cap, f1, f2, fun cells elem fr hc => f3 cells elem fr ((c.blk _ _ _ _).1 hc)⟩
  | bsl i off len size cap b hk hb hl => exact .bsl _ _ _ _ _ _ hk hb hl
  | yld i b base hk hb => exact .yld _ _ _ hk hb
  | func fn first captured fs cs h1 h2 _ _ i1 i2 => exact .func _ _ _ _ _ h1 h2 i1 i2
  | agg xs vs h1 _ ih => exact .agg _ _ h1 ih
  | tuple xs vs h1 _ ih => exact .tuple _ _ h1 ih

/-- No loop of the heap has the block r for its deferred calls. -/
def NoLoop (κ : KMap) (h : Heap) (r : Nat) : Prop := ∀ (i b d : Nat) (l : LoopRec), κ[i]? = some (some (b, d)) → h[i]? = some (.loop l) → d ≠ r

theorem shut_cellEq {r : Nat} {x : Option (List Deferred)} {y : Option (List Deferred)} (hr : w.heap[r]? = some (.deferred x)) : CellEq w (w.putObj r (.deferred y)) := by
  refine ⟨by simp, fun b cells elem fr => ?_, fun b es clock h => ?_⟩
  rotate_left
  · by_cases hb : b = r
    · subst hb
      rw [hr] at h
      cases h
    · rw [World.putObj_heap_other hb]
      exact h
  by_cases hb : b = r
  · subst hb
    rw [World.putObj_heap_same (heap_lt hr), hr]
    simp
  · rw [World.putObj_heap_other hb]

theorem shut_hrel {r : Nat} {x y : Option (List Deferred)} (hh : HRel B κ h w) (hr : w.heap[r]? = some (.deferred x)) (hn : NoLoop κ h r) : HRel B κ h (w.putObj r (.deferred y)) := by
  have c : CellEq w (w.putObj r (.deferred y)) := shut_cellEq hr
  refine ⟨hh.len, hh.inj, hh.notB, fun i b bs hi => by rw [c.size]; exact hh.lt i b bs hi, fun b hb => by rw [c.size]; exact hh.ltB b hb, fun i o k ho hk => ?_⟩
  have hob := hh.obj i o k ho hk
  cases k with
  | none => cases o <;> exact hob
  | some p =>
    obtain ⟨b, bs⟩ := p
    cases o with
    | box cs =>
      obtain ⟨h0, cells, elem, hc, hs, hv⟩ := hob
      exact ⟨h0, cells, elem, (c.blk _ _ _ _).2 hc, hs, fun j y hy => (hv j y hy).cellEq c⟩
    | row f v s es =>
      obtain ⟨hz, cells, elem, hc, hs, hl, hv⟩ := hob
      exact ⟨hz, cells, elem, (c.blk _ _ _ _).2 hc, hs, hl, fun j e cc y he hy => (hv j e cc y he hy).cellEq c⟩
    | loop l =>
      obtain ⟨f, tmps, hc, hs, hv, hrf, hd, hnx⟩ := hob
      have hbr : b ≠ r := fun e => by rw [e, hr] at hc; cases hc
      have hdr : bs ≠ r := hn i b bs l hk ho
      exact ⟨f, tmps, (World.putObj_heap_other hbr).trans hc, hs, fun j => (hv j).cellEq c, hrf, (World.putObj_heap_other hdr).trans hd, hnx⟩

theorem shut_ext {κ' : KMap} {h' : Heap} {w' : World} {r : Nat} {x y : Option (List Deferred)} (e : Ext κ h w κ' h' w') (hr : w'.heap[r]? = some (.deferred x)) (hb : w.heap.size ≤ r) : Ext κ h w κ' h' (w'.putObj r (.deferred y)) where
  os := e.os
  tape := e.tape
  output := e.output
  size := by simpa using e.size
  keep := fun b hlt hn => (World.putObj_heap_other (by omega)).trans (e.keep b hlt hn)
  ex := e.ex
  obj := e.obj
  kap := e.kap
  cells := fun i o o' ho ho' hv b bs hk cells elem fr hc => e.cells i o o' ho ho' hv b bs hk cells elem fr (((shut_cellEq (y := y) hr).blk _ _ _ _).1 hc)

end Ab
