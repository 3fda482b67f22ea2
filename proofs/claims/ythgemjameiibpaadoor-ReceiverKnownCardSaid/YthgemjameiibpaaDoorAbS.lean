/- Soundness: functions, levels. -/
import Derived.Test.YthgemjameiibpaaDoorAbR
set_option linter.unusedVariables false
set_option linter.unusedSimpArgs false
namespace Ab
open Go

variable {R : Type} {P : Program} {B : Nat → Prop} {κ : KMap} {h : Heap} {w : World} {N : Nat} {env : Env} {a : Act} {ro : Option Nat} {base : Nat}

/-! ### results -/
def resF (tmps : Array Value) : ResultVar → Sem Value
  | .tmp t => pure (tmps.getD t undef)
  | .cell a t => do loadVar t (← asAddr (tmps.getD a undef))

theorem results_eq (fn : Func) (tmps : Array Value) : results fn tmps = (do let vs ← fn.results.mapM (resF tmps); pure (resVal vs)) := rfl

theorem loadAt_var {t : TypeId} {v val : Value} (hl : (Instr.loadAt t v).run P w = .ok val w) : (do loadVar t (← asAddr v) : Sem Value).run P w = .ok val w := by
  unfold Instr.loadAt at hl
  cases v with
  | pointer p =>
    cases p with
    | some x => exact hl
    | none => simp [Instr.sureAddr] at hl
  | _ => simp [Instr.sureAddr] at hl

theorem res_ok (hr : Rel B N κ env h a w) : ∀ {rv : List ResultVar} {K : List AV → Option R} {r : R}, resK P env h rv K = some r →
    ∃ (avs : List AV) (us : List Value), K avs = some r ∧ (rv.mapM (resF a.tmps)).run P w = .ok us w ∧ CellsRel B κ h w avs us.toArray
  | [], K, r, hk => ⟨[], [], hk, by simp, rfl, fun j x hx => by simp at hx⟩
  | .tmp t :: rv, K, r, hk => by
    simp only [resK] at hk
    obtain ⟨avs, us, h1, h2, h3⟩ := res_ok hr hk
    refine ⟨_, _ :: us, h1, ?_, cellsRel_cons (hr.slot t) h3⟩
    simp only [List.mapM_cons, resF, Sem.run_bind, Sem.run_pure, Result.andThen_ok, h2]
  | .cell x t :: rv, K, r, hk => by
    simp only [resK] at hk
    obtain ⟨v, val, h4, h5, h6⟩ := aload_ok (P := P) hk hr.heap (hr.slot x)
    obtain ⟨avs, us, h1, h2, h3⟩ := res_ok hr h4
    refine ⟨_, val :: us, h1, ?_, cellsRel_cons h6 h3⟩
    have h7 := loadAt_var h5
    rw [List.mapM_cons, Sem.run_bind]
    have h8 : (resF a.tmps (.cell x t)).run P w = .ok val w := h7
    rw [h8, Result.andThen_ok, Sem.run_bind, h2, Result.andThen_ok, Sem.run_pure]

theorem results_run {fn : Func} {tmps : Array Value} {us : List Value} (hm : (fn.results.toList.mapM (resF tmps)).run P w = .ok us w) : (results fn tmps).run P w = .ok (resVal us.toArray) w := by
  rw [results_eq, Array.mapM_eq_mapM_toList]
  simp only [Sem.run_bind, map_eq_pure_bind, hm, Result.andThen_ok, Sem.run_pure]

/-! ### leaving a function -/
theorem marks_leave {fn : Func} {n : Nat} {κ0 : KMap} {h0 : Heap} {w0 : World} {Q : Ending → World → Prop} (hb : w0.heap.size ≤ base)
    (fin : ∀ w, Rel B N κ env h a w → Ext κ0 h0 w0 κ h w → ∃ v, (results fn a.tmps).run P w = .ok v w ∧ Q (.returned v) w) :
    ∀ (rs : List Nat) (w : World), rs.Nodup → (∀ r ∈ rs, base ≤ r ∧ w.heap[r]? = some (.deferred (some [])) ∧ NoLoop κ h r) → Rel B N κ env h a w → Ext κ0 h0 w0 κ h w → LeavesInM (Fr none) n P fn a.tmps Q (rs.map mark) .returning w
  | [], w, _, _, hr, hx => fin w hr hx
  | r :: rs, w, hnd, hall, hr, hx => by
    obtain ⟨h1, h2, h3⟩ := hall r (by simp)
    refine ⟨by simp, .inl ⟨r, w.putObj r (.deferred none), rfl, run_takeDeferred h2, ?_⟩⟩
    refine marks_leave hb fin rs _ (List.nodup_cons.1 hnd).2 (fun q hq => ?_) ⟨shut_hrel hr.heap h2 h3, hr.size, fun i => (hr.slot i).cellEq (shut_cellEq h2)⟩ (shut_ext hx h2 (Nat.le_trans hb h1))
    obtain ⟨h4, h5, h6⟩ := hall q (by simp [hq])
    have hne : q ≠ r := fun e => (List.nodup_cons.1 hnd).1 (e ▸ hq)
    exact ⟨h4, (World.putObj_heap_other hne).trans h5, h6⟩

theorem noLoop_of {κ' : KMap} {h' : Heap} {w' : World} (hh : HRel B κ h w) (x : Ext κ h w κ' h' w') (hd : (h'.drop h.length).all notLoop = true) {r : Nat} (hr : w.heap.size ≤ r) : NoLoop κ' h' r := by
  intro i b d l hk hi he
  rcases Nat.lt_or_ge i h.length with hl | hl
  · have hg : h[i]? = some h[i] := List.getElem?_eq_getElem hl
    obtain ⟨o', h1, h2⟩ := x.obj i _ hg
    rw [hi] at h1
    cases h1
    have hkd := h2.1
    cases ho : h[i] with
    | box cs => rw [ho] at hkd; cases hkd
    | row a b c d => rw [ho] at hkd; cases hkd
    | loop l0 =>
      rw [ho] at hg
      have hk0 := (x.kap i _ _ hg hi rfl).symm.trans hk
      obtain ⟨_, _, _, _, _, _, h5, _⟩ := hh.obj i _ _ hg hk0
      have := heap_lt h5
      omega
  · have : (h'.drop h.length)[i - h.length]? = some (.loop l) := by rw [List.getElem?_drop, show h.length + (i - h.length) = i from by omega]; exact hi
    have := all_get hd this
    cases this

theorem args_rel {vs : Array Value} {avs : List AV} (hh : HRel B κ h w) (hc : CellsRel B κ h w avs vs) {M : Nat} (hM : avs.length ≤ M) : Rel B M κ (fun i => avs.getD i .undef) h { tmps := vs ++ Array.replicate (M - vs.size) undef, defers := [] } w := by
  have hsz := hc.1
  refine ⟨hh, by simp; omega, fun i => ?_⟩
  rcases Nat.lt_or_ge i avs.length with hi | hi
  · have hg : avs[i]? = some avs[i] := List.getElem?_eq_getElem hi
    have := hc.2 i _ hg
    have e : avs.getD i .undef = avs[i] := by simp [List.getD, hg]
    rw [e]
    have e2 : (vs ++ Array.replicate (M - vs.size) undef).getD i undef = vs.getD i undef := by
      simp only [Array.getD_eq_getD_getElem?]
      rw [Array.getElem?_append_left (by omega)]
    rw [e2]
    exact this
  · have e : avs.getD i .undef = .undef := by simp [List.getD, List.getElem?_eq_none hi]
    rw [e]
    exact .undef _

theorem body_ok {C : Cfg} {rec : Rec} {pc : PRec} (hrec : RecOk C.P rec) (hpc : PRecOk C.P pc) (hmix : C.P.follows .mixedOrders = true) {m : Nat} {g : FuncId} {avs : List AV} {K : List AV → Heap → Option R} {r : R} (hk : bodyK C rec pc m g avs h K = some r)
    {vs : Array Value} (n : Nat) (hh : HRel B κ h w) (hc : CellsRel B κ h w avs vs) (Q : Ending → World → Prop)
    (fin : ∀ (ls : List AV) (us : List Value) (h' : Heap) (κ' : KMap) (w' : World) (res : Value), K ls h' = some r → CellsRel B κ' h' w' ls us.toArray → HRel B κ' h' w' → Ext κ h w κ' h' w' →
      (∀ (B2 : Nat → Prop) (κ2 : KMap) (h2 : Heap) (w2 : World) (leaf : Nat → AV), (∀ j u, us[j]? = some u → VRel B2 κ2 h2 w2 (leaf j) u) → ∃ rv, mkRes C.P g leaf = some rv ∧ VRel B2 κ2 h2 w2 rv res) → Q (.returned res) w') :
    CallsIn (Fr none) n C.P g vs w Q := by
  unfold bodyK at hk
  try simp only [cnd_eq] at hk
  split at hk
  · rename_i fn hf
    split at hk
    · rename_i c hb
      obtain ⟨hN, hk1⟩ := ite_some hk
      refine callsIn_of_wp_marks hf hb trivial ?_
      have hs : St B fn.ntmps none w.heap.size κ (fun i => avs.getD i .undef) h { tmps := vs ++ Array.replicate (fn.ntmps - vs.size) undef, defers := [] } w :=
        ⟨args_rel hh hc hN, ⟨[], rfl, List.nodup_nil, fun r hr => by simp at hr⟩, fun b' hb' => (by cases hb'), Nat.le_refl _⟩
      refine wpIn_mono (aexec_ok (C := C.at g) hrec hpc hmix (range_ok hrec) n c hk1 hs) fun e a1 w1 hp1 => ?_
      obtain ⟨env1, h1, κ1, j1, j2, j3, j4⟩ := hp1
      have go : (if ((h1.drop h.length).all notLoop) = true then resK C.P env1 h1 fn.results.toList fun vs => flatK C.P fn.resultTypes.toList vs fun rs => K rs h1 else none) = some r → LeavesInM (Fr none) n C.P fn a1.tmps Q a1.defers .returning w1 := by
        intro j1
        obtain ⟨hnl, j1⟩ := ite_some j1
        obtain ⟨rs, m1, m2, m3⟩ := j2.marks
        rw [m1]
        refine marks_leave (base := w.heap.size) (Nat.le_refl _) ?_ rs w1 m2 (fun q hq => ⟨(m3 q hq).1, (m3 q hq).2.1, noLoop_of hh j3 hnl (m3 q hq).1⟩) j2.rel j3
        intro w2 hr2 x2
        obtain ⟨avs2, us2, k1, k2, k3⟩ := res_ok (P := C.P) hr2 j1
        obtain ⟨ls, us, f1, f2, f3⟩ := flat_ok k1 k3
        refine ⟨_, results_run k2, fin ls us h1 κ1 w2 _ f1 f2 hr2.heap x2 fun B2 κ2 h2 w2 leaf hl => ?_⟩
        obtain ⟨avs', e1, e2⟩ := f3 B2 κ2 h2 w2 leaf 0 fun j u hu => by rw [Nat.zero_add]; exact hl j u hu
        exact mkRes_ok hf e1 e2
      cases e with
      | normal => exact go j1
      | ret => exact go j1
      | exit id => cases j1
      | goto t => cases j1
      | panic ch => cases j1
      | outgrown => cases j1
    · cases hk
  · cases hk

theorem call_ok {C : Cfg} {rec : Rec} {pc : PRec} (hrec : RecOk C.P rec) (hpc : PRecOk C.P pc) (hmix : C.P.follows .mixedOrders = true) {m : Nat} {g : FuncId} {avs : List AV} {K : List AV → Heap → Option R} {res : R} (hk : bodyK C rec pc m g avs h K = some res) : CallOk C.P g avs h K res := by
  intro B κ w vs n hh hc
  refine body_ok hrec hpc hmix hk n hh hc _ fun ls us h1 κ' w' rv0 k1 k2 k3 k4 k5 => ?_
  obtain ⟨rv, e1, e2⟩ := k5 B κ' h1 w' (fun i => ls.getD i .undef) fun j u hu => by
    have hj : j < ls.length := by have := lt_of_get hu; have h2 := k2.1; simp at h2; omega
    have hg : ls[j]? = some ls[j] := List.getElem?_eq_getElem hj
    have := k2.2 j _ hg
    rw [getD_list] at this
    simp only [List.getD, hg, hu, Option.getD_some] at this ⊢
    exact this
  exact ⟨rv0, rv, κ', ls, h1, rfl, k1, e1, e2, k3, k4⟩

theorem pure_ok {C : Cfg} {rec : Rec} {pc : PRec} (hrec : RecOk C.P rec) (hpc : PRecOk C.P pc) (hmix : C.P.follows .mixedOrders = true) {m : Nat} {g : FuncId} {xs ys : List Tree} (hk : pureK C rec pc m g xs = some ys) : PureOk C.P g xs ys := by
  unfold pureK at hk
  try simp only [cnd_eq] at hk
  split at hk
  · rename_i avs hm
    intro B w avs' vs n hm' hB hc
    rw [hm] at hm'
    cases hm'
    refine body_ok hrec hpc hmix hk n (hrel_empty hB) hc _ fun ls us h1 κ' w' res k1 k2 k3 k4 k5 => ?_
    have hlen : us.length = ls.length := by simpa using k2.1
    obtain ⟨zs, c1, c2, c3, c4⟩ := convs_ok (P := C.P) k1 k3 (vs := us) hlen (fun j x v hx hv => by
      have := k2.2 j x hx
      rw [getD_list] at this
      simp only [List.getD, hv, Option.getD_some] at this
      exact this)
    obtain ⟨hsc, c1⟩ := ite_some c1
    cases c1
    obtain ⟨rv, e1, e2⟩ := k5 B [] [] w' (fun i => .t (ys.getD i default)) fun j u hu => by
      have hj : j < ys.length := by have := lt_of_get hu; omega
      have hg : ys[j]? = some ys[j] := List.getElem?_eq_getElem hj
      have := c4 j _ u hg hu
      have e : ys.getD j default = ys[j] := by simp [List.getD, hg]
      rw [e]
      exact .t _ _ (this.less fun b hb => by
        rcases hb with hb | hb
        · exact .inl hb
        · exact (ex_empty hb).elim)
    exact ⟨res, rv, rfl, e1, e2, ⟨k4.os, k4.tape, k4.output, k4.size, fun b hb => k4.keep b hb fun he => ex_empty he⟩, hsc⟩
  · cases hk

theorem plain_res {P : Program} {g : FuncId} (hp : plainRes P g = true) (leaf : Nat → AV) : mkRes P g leaf = some (leaf 0) := by
  unfold plainRes at hp
  unfold mkRes
  split at hp
  · rename_i fn hf
    try rw [hf]
    split at hp
    · rename_i t ht
      have ha : isAggT P t = some false := by simpa using hp
      try dsimp only
      rw [ht]
      cases hs : szOf P t <;> simp [mkVals, mkVal, ha, hs]
    · cases hp
  · cases hp

theorem own_ok {C : Cfg} {rec : Rec} {pc : PRec} (hrec : RecOk C.P rec) (hpc : PRecOk C.P pc) (hmix : C.P.follows .mixedOrders = true) {m : Nat} {g : FuncId} {xs ys : List Tree} (hk : ownPureK C rec pc m g xs = some ys) : OwnOk C.P g xs ys := by
  unfold ownPureK at hk
  try simp only [cnd_eq] at hk
  split at hk
  · rename_i avs t hm ht
    obtain ⟨z, hz, hk⟩ := bind_some hk
    obtain ⟨hplain, hk⟩ := ite_some hk
    intro B w avs' vs n hm' hB hc
    rw [hm] at hm'
    cases hm'
    refine body_ok hrec hpc hmix hk n (hrel_empty hB) hc _ fun ls us h1 κ' w' res k1 k2 k3 k4 k5 => ?_
    have hgrow : Grow w w' := ⟨k4.os, k4.tape, k4.output, k4.size, fun b hb => k4.keep b hb fun he => ex_empty he⟩
    have hlen : us.length = ls.length := by simpa using k2.1
    obtain ⟨rv, e1, e2⟩ := k5 B κ' h1 w' (fun i => ls.getD i .undef) fun j u hu => by
      have hj : j < ls.length := by have := lt_of_get hu; omega
      have hg : ls[j]? = some ls[j] := List.getElem?_eq_getElem hj
      have := k2.2 j _ hg
      rw [getD_list] at this
      simp only [List.getD, hg, hu, Option.getD_some] at this ⊢
      exact this
    rw [plain_res hplain] at e1
    cases e1
    split at k1
    · cases k1
      have e3 : VRel B κ' h1 w' .nilsl res := e2
      cases e3 with
      | nilsl a0 => exact ⟨_, z, [], rfl, rfl, hgrow, .inl ⟨rfl, a0, rfl⟩⟩
    · rename_i i ver off len
      split at k1
      · rename_i ver' size es hi
        obtain ⟨hvs, k1'⟩ := ite_some k1
        clear k1
        obtain ⟨rfl, rfl⟩ := hvs
        cases k1'
        have e3 : VRel B κ' h1 w' (.sref i ver' off len) res := e2
        refine ⟨res, size, _, rfl, rfl, hgrow, ?_⟩
        cases e3 with
        | sref _ _ _ _ _ _ _ hsr =>
          obtain ⟨kk, hkk⟩ := kap_some k3 hi
          obtain ⟨_, hle, hmm⟩ := hsr kk _ hkk hi rfl
          simp only [AObj.len] at hle
          have ho := k3.obj i _ _ hi hkk
          cases kk with
          | none =>
            obtain ⟨a0, rfl⟩ := hmm
            have hes : es = [] := ho
            subst hes
            exact .inl ⟨by simp, a0, rfl⟩
          | some p =>
            obtain ⟨b, base⟩ := p
            obtain ⟨cap, rfl, hcap', hcs⟩ := hmm
            have hcap : len ≤ cap := by simp only [AObj.len] at hcap'; omega
            obtain ⟨hz0, cells, elem, hb, hbs, hel, hT⟩ := ho
            have hex : Ex κ' h1 b := ⟨i, base, _, hkk, hi, rfl⟩
            have hnew : w.heap.size ≤ b := by
              rcases k4.ex b hex with h | h
              · exact (ex_empty h).elim
              · exact h
            have hcsz := hcs cells elem _ hb
            have hlen2 : ((es.drop off).take len).length = len := by simp; omega
            have hget : ∀ (j : Nat) (e : List Tree), ((es.drop off).take len)[j]? = some e → es[off + j]? = some e := fun j e he => by
              have := take_get he
              rw [List.getElem?_drop] at this
              exact this.2
            refine .inr ⟨b, base + off * size, cap, cells, elem, by simp only [AObj.size]; rw [hlen2], by rw [hlen2]; exact hcap, hnew, k3.lt i b base hkk, hz0, hb, ?_, fun j e he => hel _ e (hget j e he), fun j e c x he hx => ?_⟩
            · have : base + (off + cap) * size ≤ cells.size := hcsz
              rw [Nat.add_mul] at this
              omega
            · have h8 := hT (off + j) e c x (hget j e he) hx
              rw [show base + off * size + (j * size + c) = base + ((off + j) * size + c) by rw [Nat.add_mul]; omega]
              exact h8.less fun b' hb' => by
                rcases hb' with hb' | rfl
                · exact .inl hb'
                · exact .inr hex
      · cases k1
    · cases k1
  · cases hk

theorem inl_ok {C : Cfg} (hmix : C.P.follows .mixedOrders = true) {pc : PRec} (hpc : PRecOk C.P pc) (n : Nat) : ∀ d, RecOk C.P (inl C pc n d)
  | 0 => fun R r h K res hk => (by cases hk)
  | d + 1 => fun R r h K res hk => by
    cases r with
    | fn g avs => exact call_ok (inl_ok hmix hpc n d) hpc hmix hk
    | yield i args => exact round_ok (inl_ok hmix hpc n d) hpc hmix hk

/-- What the functions by contracts ask. -/
def ExtOk (C : Cfg) : Prop := ∀ g xs ys, g < OWN → C.ext g xs = some ys → PureOk C.P g xs ys
theorem pcx_ok {C : Cfg} {pc : PRec} (hext : ExtOk C) (hpc : PRecOk C.P pc) : PRecOk C.P (pcx C pc) := fun g xs ys hk => by
  unfold pcx at hk
  split at hk
  · split at hk
    · rename_i hg
      split at hk
      · rename_i he
        cases hk
        rw [if_pos hg]
        exact hext g [] _ hg he
      · exact hpc g _ _ hk
    · exact hpc g _ _ hk
  · exact hpc g _ _ hk
theorem apure_oks {C : Cfg} (hmix : C.P.follows .mixedOrders = true) (hext : ExtOk C) : ∀ n, PRecOk C.P (apure C n)
  | 0 => fun g xs ys hk => (by cases hk)
  | n + 1 => fun g xs ys hk => by
    unfold apure at hk
    by_cases hg : g < OWN
    · rw [if_pos hg] at hk ⊢
      split at hk
      · rename_i ys' he
        cases hk
        exact hext g xs _ hg he
      exact pure_ok (inl_ok hmix (pcx_ok hext (apure_oks hmix hext n)) n C.depth) (pcx_ok hext (apure_oks hmix hext n)) hmix hk
    · rw [if_neg hg] at hk ⊢
      exact own_ok (inl_ok hmix (pcx_ok hext (apure_oks hmix hext n)) n C.depth) (pcx_ok hext (apure_oks hmix hext n)) hmix hk

/-- WHAT THE EVALUATOR SAYS OF A FUNCTION HOLDS. -/
theorem apure_ok {C : Cfg} (hmix : C.P.follows .mixedOrders = true) (hext : ExtOk C) {n : Nat} {g : FuncId} {xs ys : List Tree} (hg : g < OWN) (hk : apure C n g xs = some ys) : PureOk C.P g xs ys := by
  have := apure_oks hmix hext n g xs ys hk
  rwa [if_pos hg] at this

#print axioms apure_ok
end Ab
