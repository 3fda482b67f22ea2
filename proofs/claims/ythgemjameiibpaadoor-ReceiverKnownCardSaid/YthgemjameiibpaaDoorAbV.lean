/- From the evaluator's answer to the contract that a row asks. -/
import Derived.Test.YthgemjameiibpaaDoorAbU
import Derived.Below
import Derived.CallsIn
set_option linter.unusedVariables false
set_option linter.unusedSimpArgs false
namespace Ab
open Go Go.RowKit Go.WideShapes Go.ChangeShapes

variable {P : Program} {w w' : World} {H : Type} {enc : TypeId × Value → H} {base : Nat} {held : Bool}

theorem Grow.below (g : Grow w w') : Below w.heap.size w w' := ⟨g.os, g.tape, g.output, g.size, fun b hb => g.block b hb⟩

theorem szOf_cells {t : TypeId} {n : Nat} (h : szOf P t = some n) : P.cellsOf t = n := by
  unfold szOf at h
  unfold Program.cellsOf
  rw [h]
  rfl

theorem typed_len {d : Nat} {t : TypeId} {xs : List Tree} {cs : List Value} (h : Cells w xs cs) : xs.length = cs.length := h.1

/-- The arguments as trees. -/
theorem args_of_trod {d : Nat} {spare : Nat → Bool} {b0 : Nat} : ∀ {ts : List TypeId} {vs : List Value} {ds : List (DataW H)} {p : List MemPlace}, ts.all (okTy P d) = true → (ts.all fun t => (szOf P t).isSome) = true →
    (∀ (j : Nat) t v, ts[j]? = some t → vs[j]? = some v → Value.okWide P w .any b0 t v) → DataW.TrodAll enc P w base spare held ts vs ds p →
    ∃ xs, TypedL (Typed P d) ts xs ∧ ∀ (leaf : Nat → AV) (off : Nat), (∀ j x, xs[j]? = some x → leaf (off + j) = .t x) → ∃ avs, mkVals P leaf ts off = some avs ∧ CellsRel (fun _ => False) [] [] w avs vs.toArray
  | [], vs, ds, p, _, _, _, h => by
    obtain ⟨rfl, rfl, rfl⟩ := trodAll_nil h
    exact ⟨[], rfl, fun leaf off _ => ⟨[], rfl, rfl, fun j x hx => by simp at hx⟩⟩
  | t :: ts, vs, ds, p, hok, hsz, hval, h => by
    obtain ⟨v, vs', d1, ds', p1, q, rfl, rfl, rfl, h1, h2⟩ := trodAll_cons h
    simp only [List.all_cons, Bool.and_eq_true] at hok hsz
    obtain ⟨xs, h3, h4⟩ := args_of_trod hok.2 hsz.2 (fun j t' v' ht hv => hval (j + 1) t' v' (by simpa using ht) (by simpa using hv)) h2
    obtain ⟨fuel, h1⟩ := h1
    obtain ⟨ys, h5, h6⟩ := typed_of_trod d hok.1 h1
    have hv := hval 0 t v rfl rfl
    obtain ⟨n, hn⟩ := Option.isSome_iff_exists.1 hsz.1
    have hc := szOf_cells hn
    refine ⟨ys ++ xs, ⟨ys, xs, rfl, h5, h3⟩, fun leaf off hl => ?_⟩
    obtain ⟨avs, e1, e2⟩ := h4 leaf (off + ys.length) fun j x hx => by
      have := hl (ys.length + j) x (by rw [List.getElem?_append_right (by omega)]; simpa using hx)
      rwa [← Nat.add_assoc] at this
    have hT : ∀ j v', v.cells.toList[j]? = some v' → VRel (fun _ => False) [] [] w (leaf (off + j)) v' := fun j v' hv' => by
      have hj : j < ys.length := by rw [h6.1]; exact lt_of_get hv'
      have hg : ys[j]? = some ys[j] := List.getElem?_eq_getElem hj
      rw [hl j ys[j] (by rw [List.getElem?_append_left hj]; exact hg)]
      exact .t _ _ ((h6.2 j _ v' hg hv').less fun b hb => by
        rcases hb with hb | hb
        · exact hb
        · exact (ex_empty hb).elim)
    have leafCase : isAggT P t = some false → v.cells = #[v] → ∃ avs, mkVals P leaf (t :: ts) off = some avs ∧ CellsRel (fun _ => False) [] [] w avs (v :: vs').toArray := by
      intro ha hcv
      have hl1 : ys.length = 1 := by rw [h6.1, hcv]; rfl
      refine ⟨leaf off :: avs, ?_, cellsRel_cons (by simpa using hT 0 v (by rw [hcv]; rfl)) e2⟩
      rw [hl1] at e1
      cases hs : szOf P t <;> simp only [mkVals, mkVal, ha, hs, e1, Option.map_some]
    have hok1 := hok.1
    cases d with
    | zero => cases hok1
    | succ d =>
      unfold okTy at hok1
      cases hu : P.underlying t with
      | none => rw [hu] at hok1; cases hok1
      | some u =>
        rw [hu] at hok1
        cases u with
        | bool => obtain ⟨b, rfl⟩ := okWide_bool hu hv; exact leafCase (by simp [isAggT, hu]) rfl
        | int k => obtain ⟨b, rfl⟩ := okWide_int hu hv; exact leafCase (by simp [isAggT, hu]) rfl
        | string => obtain ⟨b, rfl⟩ := okWide_string hu hv; exact leafCase (by simp [isAggT, hu]) rfl
        | slice e => obtain ⟨a, len, cap, rfl⟩ := okWide_slice hu hv; exact leafCase (by simp [isAggT, hu]) rfl
        | struct fs =>
          obtain ⟨cs, rfl, hcs⟩ := okWide_struct hu hv
          have ha : isAggT P t = some true := by simp [isAggT, hu]
          have hl1 : ys.length = n := by rw [h6.1]; simp [Value.cells, hcs, hc]
          refine ⟨.agg (pickCells leaf off n) :: avs, ?_, cellsRel_cons (.agg _ _ (by simp [pickCells, hcs, hc]) fun j y hy => ?_) e2⟩
          · rw [hl1] at e1
            simp only [mkVals, mkVal, ha, hn, e1, Option.map_some]
          · have hj : j < n := by have := lt_of_get hy; simpa [pickCells] using this
            rw [pickCells_get leaf off _ _ hj] at hy
            cases hy
            have hj2 : j < cs.size := by omega
            exact hT j _ (by simp [Value.cells, Array.getD, hj2])
        | _ => cases hok1

theorem trodAll_len {spare : Nat → Bool} : ∀ {ts : List TypeId} {vs : List Value} {ds : List (DataW H)} {p : List MemPlace}, DataW.TrodAll enc P w base spare held ts vs ds p → ds.length = ts.length
  | [], vs, ds, p, h => by
    obtain ⟨rfl, rfl, rfl⟩ := trodAll_nil h
    rfl
  | t :: ts, vs, ds, p, h => by
    obtain ⟨v, vs', d1, ds', p1, q, rfl, rfl, rfl, h1, h2⟩ := trodAll_cons h
    simp [trodAll_len h2]

theorem trodAll_keep {sp : Nat → Bool} (hk : ∀ b, b < w.heap.size → w'.heap[b]? = w.heap[b]?) {d : Nat} : ∀ {ts : List TypeId} {vs : List Value} {ds : List (DataW H)} {p : List MemPlace}, ts.all (okTy P d) = true →
    DataW.TrodAll enc P w base (fun _ => true) held ts vs ds p → (∀ x ∈ p, sp x.block = true) → DataW.TrodAll enc P w' base sp held ts vs ds p
  | [], vs, ds, p, _, h, _ => by
    obtain ⟨rfl, rfl, rfl⟩ := trodAll_nil h
    exact rfl
  | t :: ts, vs, ds, p, hok, h, hp => by
    obtain ⟨v, vs', d1, ds', p1, q, rfl, rfl, rfl, h1, h2⟩ := trodAll_cons h
    simp only [List.all_cons, Bool.and_eq_true] at hok
    obtain ⟨fuel, h1⟩ := h1
    exact trodAll_cons_mk ⟨fuel, trod_keep hk d hok.1 h1 fun x hx => hp x (List.mem_append_left _ hx)⟩ (trodAll_keep hk hok.2 h2 fun x hx => hp x (List.mem_append_right _ hx))

theorem post_of_below {f : Func} {s : ChangeSpec} {apart fresh handsOn again : Bool} {W W' : World} {args : Array Value} {v : Value} {ds gs : List (DataW H)} {before pa pv : List MemPlace}
    (hW : DataW.Whole enc P f.params.toList s.vars apart W args.toList ds gs before)
    (hres : ∀ (b : Nat) (sp : Nat → Bool) (hd : Bool), DataW.TrodAll enc P W' b sp hd f.resultTypes.toList (v.resultList f.resultTypes.size) (s.fn H (ds ++ gs)).results [])
    (hargs : ∀ sp : Nat → Bool, (∀ p ∈ before, sp p.block = true) → DataW.TrodAll enc P W' 0 sp true f.params.toList args.toList (s.fn H (ds ++ gs)).args pa)
    (hvars : ∀ sp : Nat → Bool, (∀ p ∈ before, sp p.block = true) → DataW.TrodVars enc P W' sp s.vars (s.fn H (ds ++ gs)).vars pv)
    (hps : before = pa ++ pv) (hb : Below W.heap.size W W')
    (hok : ∀ (j : Nat) (t : TypeId) (r : Value), f.resultTypes[j]? = some t → (v.resultList f.resultTypes.size)[j]? = some r → Value.okWide P W' .any 0 t r) :
    s.post enc P f apart fresh handsOn again W args v W' := by
  have hlt : ∀ p ∈ before, p.block < W.heap.size := fun p hp => hW.lt p hp
  have hold : ∀ p ∈ before, (fun b => decide (b < W.heap.size)) p.block = true := fun p hp => by simpa using hlt p hp
  refine ⟨ds, gs, before, [], pa, pv, hW, hres _ _ _, hargs _ hold, hvars _ hold, World.keptBut_mono (fun p hp => ⟨hp, ?_⟩) (hb.frame (· ∈ before)), fun _ => ?_⟩
  · rw [hps, List.mem_append] at hp
    exact Or.inr hp
  · obtain ⟨_, _, _, _, _, hz, hn⟩ := hW
    refine ⟨hok, _, _, ([] ++ pa) ++ pv, ⟨[] ++ pa, pv, trodAll_append (hargs _ (fun _ _ => rfl)) (hres _ _ _), hvars _ (fun _ _ => rfl), rfl, ?_, ?_⟩, ?_⟩
    · intro b off hp
      have hin : MemPlace.cell b off ∈ before := by rw [hps]; simpa using hp
      rw [hb.frozen (hlt _ hin)]
      exact hz b off hin
    · intro ha
      have := hn ha
      rw [hps] at this
      simpa using this
    · intro p hp _
      rw [hps]
      simpa using hp

/-- A LAW's CONTRACT OUT OF THE EVALUATOR's ANSWER. -/
theorem law_contract {C : Cfg} (hmix : C.P.follows .mixedOrders = true) (hext : ExtOk C) {f : FuncId} {fn : Func} {s : ChangeSpec} {bt : TypeId} {d : Nat} (hlt : f < OWN) (hf : C.P.funcs[f]? = some fn) (hvars : s.vars = []) (hps : fn.params.toList.all (okTy C.P d) = true) (hsz : (fn.params.toList.all fun t => (szOf C.P t).isSome) = true)
    (hrt : fn.resultTypes = #[bt]) (hbt : C.P.underlying bt = some .bool)
    (hspec : ∀ (H : Type) (ds : List (DataW H)), ds.length = fn.params.size → (s.fn H ds).results = [.lit (.bool true)] ∧ (s.fn H ds).args = ds ∧ (s.fn H ds).vars = [])
    (law : ∀ xs, TypedL (Typed C.P d) fn.params.toList xs → ∃ n, apure C n f xs = some [.bool true])
    {apart fresh handsOn again : Bool} (W : World) (b0 : Nat) (args : Array Value) (ds gs : List (DataW H)) (before : List MemPlace)
    (hval : ∀ (j : Nat) t v, fn.params[j]? = some t → args[j]? = some v → Value.okWide C.P W .any b0 t v)
    (hW : DataW.Whole enc C.P fn.params.toList s.vars apart W args.toList ds gs before) :
    Calls C.P f args W fun e W' => ∃ v, e = .returned v ∧ s.post enc C.P fn apart fresh handsOn again W args v W' := by
  have hW' := hW
  obtain ⟨p, q, hA, hV, hbf, hfz, hnd⟩ := hW
  rw [hvars] at hV
  obtain ⟨rfl, rfl⟩ := trodVars_none hV
  have hlen : ds.length = fn.params.size := by
    have := trodAll_len hA
    simpa using this
  obtain ⟨s1, s2, s3⟩ := hspec H (ds ++ []) (by simpa using hlen)
  obtain ⟨xs, h1, h2⟩ := args_of_trod (b0 := b0) hps hsz (fun j t v ht hv => hval j t v (by rw [← Array.getElem?_toList]; exact ht) (by rw [← Array.getElem?_toList]; exact hv)) hA
  obtain ⟨n, hn⟩ := law xs h1
  obtain ⟨avs, h3, h4⟩ := h2 (fun i => .t (xs.getD i default)) 0 fun j x hx => by rw [Nat.zero_add]; simp [List.getD, hx]
  have hm : mkArgs C.P f (fun i => .t (xs.getD i default)) = some avs := by unfold mkArgs; rw [hf]; exact h3
  have h4' : CellsRel (fun _ => False) [] [] W avs args := by simpa using h4
  have hpure := apure_ok hmix hext hlt hn (fun _ => False) W avs args 0 hm (fun b hb => hb.elim) h4'
  refine (callsIn_wide (n := 0)).1 (CallsIn.mono hpure ?_)
  rintro e W' ⟨v, r, rfl, hr, hv, hg, _⟩
  have hbv : v = .bool true := by
    unfold mkRes at hr
    rw [hf] at hr
    simp only [hrt] at hr
    have : isAggT C.P bt = some false := by simp [isAggT, hbt]
    cases hs : szOf C.P bt <;> simp [mkVals, mkVal, this, hs] at hr <;> subst hr <;> (cases hv with | t _ _ ht => cases ht; rfl)
  subst hbv
  refine ⟨_, rfl, ?_⟩
  simp only [List.append_nil] at hbf
  subst hbf
  refine post_of_below (pa := before) (pv := []) hW' (fun b sp hd => ?_) (fun sp hsp => ?_) (fun sp _ => ?_) (by simp) hg.below ?_
  · rw [s1, hrt]
    exact trodAll_cons_mk (shut_bool hbt _) trodAll_mk0
  · rw [s2, List.append_nil]
    exact trodAll_keep hg.block hps hA hsp
  · rw [hvars, s3]; rfl
  · exact ok_one hrt rfl (okWide_bool_mk hbt _)

#print axioms law_contract
end Ab
