/- Soundness: calls in a function's code. -/
import Derived.Test.YthgemjameiibpaaDoorAbI
import Derived.Test.YthgemjameiibpaaDoorAbI5
namespace Ab
open Go

variable {R : Type} {P : Program} {B : Nat → Prop} {κ : KMap} {h : Heap} {w : World}

theorem mkVal_transfer {f : Nat → Tree} {t : TypeId} {off : Nat} {x : AV} {off' : Nat} (hm : mkVal P t (fun i => .t (f i)) off = some (x, off')) {B1 B2 : Nat → Prop} {κ1 κ2 : KMap} {h1 h2 : Heap} {w1 w2 : World} {v : Value} (hv : VRel B1 κ1 h1 w1 x v)
    (ht : ∀ i u, TRel w1 (fun b => B1 b ∨ Ex κ1 h1 b) (f i) u → TRel w2 (fun b => B2 b ∨ Ex κ2 h2 b) (f i) u) : VRel B2 κ2 h2 w2 x v := by
  unfold mkVal at hm
  split at hm
  · rename_i n _ _
    simp only [Option.some.injEq, Prod.mk.injEq] at hm
    obtain ⟨rfl, _⟩ := hm
    cases hv with
    | agg _ vs hs hall =>
      refine .agg _ _ hs fun j y hy => ?_
      have := hall j y hy
      have hj : j < n := by have := lt_of_get hy; simpa [pickCells] using this
      rw [pickCells_get _ _ _ _ hj] at hy
      cases hy
      cases this with
      | t _ _ h3 => exact .t _ _ (ht _ _ h3)
  · simp only [Option.some.injEq, Prod.mk.injEq] at hm
    obtain ⟨rfl, _⟩ := hm
    cases hv with
    | t _ _ h3 => exact .t _ _ (ht _ _ h3)
  · cases hm

theorem mkVals_transfer {f : Nat → Tree} : ∀ {ts : List TypeId} {off : Nat} {avs : List AV}, mkVals P (fun i => .t (f i)) ts off = some avs → ∀ {B1 B2 : Nat → Prop} {κ1 κ2 : KMap} {h1 h2 : Heap} {w1 w2 : World}
    (_ : ∀ i u, TRel w1 (fun b => B1 b ∨ Ex κ1 h1 b) (f i) u → TRel w2 (fun b => B2 b ∨ Ex κ2 h2 b) (f i) u) (x : AV) (_ : x ∈ avs) (v : Value), VRel B1 κ1 h1 w1 x v → VRel B2 κ2 h2 w2 x v
  | [], off, avs, hm, B1, B2, κ1, κ2, h1, h2, w1, w2, ht, x, hx, v, hv => by
    simp only [mkVals, Option.some.injEq] at hm
    subst hm
    cases hx
  | t :: ts, off, avs, hm, B1, B2, κ1, κ2, h1, h2, w1, w2, ht, x, hx, v, hv => by
    simp only [mkVals] at hm
    split at hm
    · rename_i y off' hy
      cases hr : mkVals P (fun i => .t (f i)) ts off' with
      | none => rw [hr] at hm; cases hm
      | some rest =>
        rw [hr] at hm
        simp only [Option.map_some, Option.some.injEq] at hm
        subst hm
        cases hx with
        | head => exact mkVal_transfer hy hv ht
        | tail _ hx => exact mkVals_transfer hr ht x hx v hv
    · cases hm

theorem mkRes_transfer {f : Nat → Tree} {g : FuncId} {r : AV} (hm : mkRes P g (fun i => .t (f i)) = some r) {B1 B2 : Nat → Prop} {κ1 κ2 : KMap} {h1 h2 : Heap} {w1 w2 : World}
    (ht : ∀ i u, TRel w1 (fun b => B1 b ∨ Ex κ1 h1 b) (f i) u → TRel w2 (fun b => B2 b ∨ Ex κ2 h2 b) (f i) u) {v : Value} (hv : VRel B1 κ1 h1 w1 r v) : VRel B2 κ2 h2 w2 r v := by
  unfold mkRes at hm
  split at hm
  · rename_i fn hf
    split at hm
    · rename_i x hx
      cases hm
      exact mkVals_transfer hx ht _ (List.mem_singleton.2 rfl) v hv
    · rename_i avs _ hx
      cases hm
      cases hv with
      | tuple _ vs hs hall => exact .tuple _ _ hs fun j y hy => mkVals_transfer hx ht y (List.mem_of_getElem? hy) _ (hall j y hy)
    · cases hm
  · cases hm

theorem mkVals_refs {m : Nat} {leaf : Nat → AV} (hl : ∀ i, Refs m (leaf i)) : ∀ {ts : List TypeId} {off : Nat} {avs : List AV}, mkVals P leaf ts off = some avs → ∀ x ∈ avs, Refs m x
  | [], off, avs, hm, x, hx => by
    simp only [mkVals, Option.some.injEq] at hm
    subst hm
    cases hx
  | t :: ts, off, avs, hm, x, hx => by
    simp only [mkVals] at hm
    split at hm
    · rename_i y off' hy
      cases hr : mkVals P leaf ts off' with
      | none => rw [hr] at hm; cases hm
      | some rest =>
        rw [hr] at hm
        simp only [Option.map_some, Option.some.injEq] at hm
        subst hm
        cases hx with
        | tail _ hx => exact mkVals_refs hl hr x hx
        | head =>
          unfold mkVal at hy
          split at hy
          · rename_i n _ _
            simp only [Option.some.injEq, Prod.mk.injEq] at hy
            obtain ⟨rfl, _⟩ := hy
            refine .agg _ fun j z hz => ?_
            have hj : j < n := by have := lt_of_get hz; simpa [pickCells] using this
            rw [pickCells_get _ _ _ _ hj] at hz
            cases hz
            exact hl _
          · simp only [Option.some.injEq, Prod.mk.injEq] at hy
            obtain ⟨rfl, _⟩ := hy
            exact hl _
          · cases hy
    · cases hm

theorem mkRes_refs {m : Nat} {leaf : Nat → AV} (hl : ∀ i, Refs m (leaf i)) {g : FuncId} {r : AV} (hm : mkRes P g leaf = some r) : Refs m r := by
  unfold mkRes at hm
  split at hm
  · split at hm
    · rename_i x hx
      cases hm
      exact mkVals_refs hl hx _ (List.mem_singleton.2 rfl)
    · rename_i avs _ hx
      cases hm
      exact .tuple _ fun j y hy => mkVals_refs hl hx y (List.mem_of_getElem? hy)
    · cases hm
  · cases hm

/-- What a call leaves, in the caller's words. -/
def AfterCall (B : Nat → Prop) (κ : KMap) (h : Heap) (w : World) (q : Bool) (K : AV → Heap → Option R) (r : R) (e : Ending) (w' : World) : Prop :=
  ∃ val v h' κ', e = .returned val ∧ K v h' = some r ∧ VRel B κ' h' w' v val ∧ HRel B κ' h' w' ∧ Ext κ h w κ' h' w' ∧ (q = true → h' = h ∧ κ' = κ)

theorem scalar_getD {ys : List Tree} (hs : ys.all Tree.scalar = true) (i : Nat) : (ys.getD i default).scalar = true := by
  rcases Nat.lt_or_ge i ys.length with hi | hi
  · exact all_get hs (getD_of_lt ys i default hi)
  · simp only [List.getD, List.getElem?_eq_none hi]; rfl

theorem grow_get {α : Type} {l m : List α} {i : Nat} {x : α} (hi : i < l.length) (hx : (l ++ m)[i]? = some x) : l[i]? = some x := by
  rw [List.getElem?_append_left hi] at hx; exact hx

theorem trim_ok {m : Nat} {rs : List AV} {κ' : KMap} {h1 : Heap} {w' : World} {rv : AV} {v : Value} (hh' : HRel B κ' h1 w') (x : Ext κ h w κ' h1 w') (hm : h.length ≤ m) (hrefs : (∀ i, Refs m (rs.getD i .undef)) → Refs m rv) (hv : VRel B κ' h1 w' rv v) :
    ∃ κ2, VRel B κ2 (trim m rs h1) w' rv v ∧ HRel B κ2 (trim m rs h1) w' ∧ Ext κ h w κ2 (trim m rs h1) w' := by
  unfold trim
  split
  · rename_i hc
    simp only [Bool.and_eq_true] at hc
    refine ⟨κ'.take m, hv.trunc (hrefs fun i => ?_), hh'.trunc hc.2, x.trunc hm⟩
    rcases Nat.lt_or_ge i rs.length with hi | hi
    · exact below_refs 4 (all_get hc.1 (getD_of_lt rs i .undef hi))
    · simp only [List.getD, List.getElem?_eq_none hi]; exact .undef
  · exact ⟨κ', hv, hh', x⟩

theorem fcall_ok {C : Cfg} {rec : Rec} {pc : PRec} (hrec : RecOk C.P rec) (hpc : PRecOk C.P pc) {q : Bool} {g : FuncId} {avs : List AV} {K : AV → Heap → Option R} {r : R} (hr : fcall C rec pc q g avs h K = some r)
    (hh : HRel B κ h w) {vs : Array Value} (hc : CellsRel B κ h w avs vs) (n : Nat) : CallsIn (Fr none) n C.P g vs w (AfterCall B κ h w q K r) := by
  unfold fcall at hr
  try simp only [cnd_eq] at hr
  split at hr
  · split at hr
    · cases hr
    · rename_i hq
      obtain ⟨ls, us, hr1, hls, hbuild⟩ := flat_ok hr hc
      clear hr
      obtain ⟨hh1, x1⟩ := freezeAll_ok ls hh
      have hls1 := hls.ext x1
      obtain ⟨xs, hr3, hxl, _, hxt⟩ := convs_ok (vs := us) hr1 hh1 (by simpa using hls1.1) (cellsRel_list hls1)
      obtain ⟨ys, hy, hr4⟩ := bind_some hr3
      have hown := hpc (OWN + g) xs ys hy
      rw [if_neg (Nat.not_lt.2 (Nat.le_add_right OWN g)), Nat.add_sub_cancel_left] at hown
      split at hr4
      · rename_i t ht
        obtain ⟨z, hz, hr5⟩ := bind_some hr4
        obtain ⟨⟨hyl, hys⟩, hK⟩ := ite_some hr5
        have hul : us.length = xs.length := by rw [hxl]; simpa using hls1.1
        obtain ⟨avs', ha1, ha2⟩ := hbuild (fun b => B b ∨ Ex κ (freezeAll h ls) b) [] [] w (fun i => .t (xs.getD i default)) 0 (fun j u hu => by
          have hj : j < xs.length := by rw [← hul]; exact lt_of_get hu
          have := hxt j _ u (getD_of_lt xs j default hj) hu
          rw [Nat.zero_add]
          exact .t _ _ (this.less fun b hb => by
            rcases hb with (hb | hb) | hb
            · exact .inl hb
            · exact .inr ⟨rfl, hb⟩
            · exact (ex_empty hb).elim))
        have ha3 : mkArgs C.P g (fun i => .t (xs.getD i default)) = some avs' := by
          unfold resTys at ht
          unfold mkArgs
          unfold paramTs at ha1
          cases hf : C.P.funcs[g]? with
          | none => rw [hf] at ht; cases ht
          | some fn => rw [hf] at ha1; exact ha1
        refine (hown (fun b => B b ∨ Ex κ (freezeAll h ls) b) w avs' vs n ha3 (fun b hb => hb.elim (hh1.ltB b) fun ⟨i, base, o, hk, _, _⟩ => hh1.lt i b base hk) ha2).mono ?_
        rintro e w' ⟨v, s, es, rfl, rfl, hg, hnew⟩
        have hes : slOf (([Tree.sl s es] : List Tree).getD 0 default) = es := rfl
        have hsz : s = z := by
          have h1 : isSlT z (Tree.sl s es) = true := hys
          simpa [isSlT] using h1
        subst hsz
        rw [hes] at hK
        have hh2 := grow_hrel hh1 hg
        have x2 := grow_ext hh1 hg
        unfold putOwn at hK
        split at hK
        · rename_i i0 v0 hre
          have hre : ownRef h ls = some (i0, v0) := by
            split at hre
            · exact hre
            · cases hre
          split at hK
          · rename_i honly
            obtain ⟨size0, es0, hi0⟩ := ownRef_ok hre
            obtain ⟨kk, hkk⟩ := kap_some hh hi0
            have hOL : ∀ L, OLe (.row false v0 size0 es0) (.row false (v0 + 1) s L) := fun L => ⟨rfl, Nat.le_succ _, (fun e => by simp [AObj.ver] at e), (fun e => by cases e), (fun e => by cases e), rfl⟩
            have hver : ∀ L, (AObj.row false v0 size0 es0).ver = (AObj.row false (v0 + 1) s L).ver → ∀ {p : Prop}, p := fun L e => by simp [AObj.ver] at e
            rcases hnew with ⟨rfl, a0, rfl⟩ | ⟨b, base, cap, cells, elem, rfl, h1, h2, h3, h4, h5, h6, h7, h8⟩
            · have x3 : Ext κ h w (κ.set i0 none) (h.set i0 (.row false (v0 + 1) s [])) w' :=
                upd_ext hh hi0 rfl (hOL []) hkk hg.os hg.tape hg.output hg.size (fun b' hb' _ => hg.block b' hb') (fun b base e => by cases e) (fun e => hver [] e)
              have hh3 := upd_hrel hh hi0 hkk (fun b' hb' _ => hg.block b' hb') (fun b base e => by cases e) x3 (show ORel B (κ.set i0 none) (h.set i0 (.row false (v0 + 1) s [])) w' none (.row false (v0 + 1) s []) from rfl)
              exact ⟨_, _, _, _, rfl, hK, row_value_none (set_new hkk) (set_new hi0), hh3, x3, fun e => (hq e).elim⟩
            · have x3 : Ext κ h w (κ.set i0 (some (b, base))) (h.set i0 (.row false (v0 + 1) s es)) w' :=
                upd_ext hh hi0 rfl (hOL es) hkk hg.os hg.tape hg.output hg.size (fun b' hb' _ => hg.block b' hb') (fun b' base' e => by injection e with e; injection e with e; exact .inr (by omega)) (fun e => hver es e)
              have hh3 := upd_hrel hh hi0 hkk (fun b' hb' _ => hg.block b' hb') (fun b' base' e => by injection e with e; injection e with e; subst e; exact ⟨.inr h2, h3⟩) x3
                (orel_row h4 h5 (Nat.le_trans (Nat.add_le_add_left (Nat.mul_le_mul_right _ h1) _) h6) ⟨h7, fun j e' c x he hx => (h8 j e' c x he hx).less fun b' hb' => by
                  rcases hb' with hb' | ⟨i, bs, o, k1, k2, k3⟩
                  · exact .inl (.inl hb')
                  · by_cases hii : i = i0
                    · subst hii
                      rw [set_new hkk] at k1
                      injection k1 with k1
                      injection k1 with k1
                      injection k1 with k1
                      exact .inr k1.symm
                    · rw [List.getElem?_set_ne (fun e => hii e.symm)] at k1 k2
                      exact .inl (.inr ⟨i, bs, o, k1, by rw [freezeAll_only ls h honly i hii]; exact k2, k3⟩)⟩)
              exact ⟨_, _, _, _, rfl, hK, row_value (set_new hkk) (set_new hi0) h5 h6 rfl h1, hh3, x3, fun e => (hq e).elim⟩
          · cases hK
        rcases hnew with ⟨rfl, a0, rfl⟩ | ⟨b, base, cap, cells, elem, rfl, h1, h2, h3, h4, h5, h6, h7, h8⟩
        · have x3 : Ext κ (freezeAll h ls) w' (κ ++ [none]) (freezeAll h ls ++ [.row false 0 s []]) w' := push_ext hh2 rfl rfl rfl (Nat.le_refl _) (fun _ _ => rfl) (fun b base e => by cases e)
          have hh3 := push_hrel hh2 (fun _ _ => rfl) x3 (fun b base e => by cases e) (show ORel B (κ ++ [none]) (freezeAll h ls ++ [.row false 0 s []]) w' none (.row false 0 s []) from rfl)
          exact ⟨_, _, _, _, rfl, hK, row_value_none (by rw [← hh2.len]; exact snoc_new κ _) (snoc_new _ _), hh3, (x1.trans x2).trans x3, fun e => (hq e).elim⟩
        · -- the new block
          have x3 : Ext κ (freezeAll h ls) w (κ ++ [some (b, base)]) (freezeAll h ls ++ [.row false 0 s es]) w' :=
            push_ext hh1 hg.os hg.tape hg.output hg.size hg.block fun b' base' e => by injection e with e; injection e with e; omega
          have hh3 := push_hrel hh1 hg.block x3 (fun b' base' e => by injection e with e; injection e with e; subst e; exact ⟨h2, h3⟩)
            (orel_row h4 h5 (Nat.le_trans (Nat.add_le_add_left (Nat.mul_le_mul_right _ h1) _) h6) ⟨h7, fun j e' c x he hx => (h8 j e' c x he hx).less fun b' hb' => by
              rcases hb' with hb' | ⟨i, bs, o, k1, k2, k3⟩
              · exact .inl (.inl hb')
              · rcases snoc_get κ _ i k1 with ⟨_, k1'⟩ | ⟨rfl, k1'⟩
                · have hi : i < (freezeAll h ls).length := by rw [← hh1.len]; exact lt_of_get k1'
                  rw [List.getElem?_append_left hi] at k2
                  exact .inl (.inr ⟨i, bs, o, k1', k2, k3⟩)
                · injection k1' with k1'; injection k1' with k1'; exact .inr k1'⟩)
          exact ⟨_, _, _, _, rfl, hK, row_value (by rw [← hh1.len]; exact snoc_new κ _) (snoc_new _ _) h5 h6 rfl h1, hh3, x1.trans x3, fun e => (hq e).elim⟩
      · cases hr4
  split at hr
  · split at hr
    · cases hr
    · rename_i hq
      split at hr
      · rename_i p hp
        refine (aprim_ok (C.primOk g p hp) hr hh hc n).mono ?_
        rintro e w' ⟨val, v, h', κ', rfl, hK, y1, y2, y3⟩
        exact ⟨val, v, h', κ', rfl, hK, y1, y2, y3, fun e => (hq e).elim⟩
      split at hr
      · unfold join at hr
        have hcall := hrec _ _ _ _ _ hr
        refine (hcall B κ w vs n hh hc).mono ?_
        rintro e w' ⟨v, rv, κ', rs, h1, rfl, hK, hm, hv, hh', x⟩
        simp only [cnd_eq] at hK
        obtain ⟨hsh, hK⟩ := ite_some hK
        obtain ⟨hs, hK2, hun, hbe⟩ := cutK_ok hK (ext_shape x)
        have hrl : reshapeL C.P rs (resTys C.P g) 0 = rs := reshapeL_ok [] hsh
        simp only [hrl, hm, hun] at hK2
        exact ⟨v, rv, _, κ'.take h.length, rfl, hK2, hv.trunc (mkRes_refs (fun i => shapeL_t hsh i _) hm), hh'.trunc hbe, x.trunc (Nat.le_refl _), fun e => (hq e).elim⟩
      have hcall := hrec _ _ _ _ _ hr
      refine (hcall B κ w vs n hh hc).mono ?_
      rintro e w' ⟨v, rv, κ', rs, h1, rfl, hK, hm, hv, hh', x⟩
      simp only [hm] at hK
      obtain ⟨κ2, y1, y2, y3⟩ := trim_ok (m := h.length) hh' x (Nat.le_refl _) (fun hl => mkRes_refs hl hm) hv
      exact ⟨v, rv, _, κ2, rfl, hK, y1, y2, y3, fun e => (hq e).elim⟩
  · obtain ⟨ls, us, hr1, hls, hbuild⟩ := flat_ok hr hc
    clear hr
    obtain ⟨h1, hh1, x1, hqq, hr2⟩ : ∃ h1, HRel B κ h1 w ∧ Ext κ h w κ h1 w ∧ (q = true → h1 = h) ∧ (convs C.P (!scalarRes C.P g) h1 (paramTys C.P g) ls fun xs => if g < OWN then ((pc g xs).bind fun ys => retYs C.P (resTys C.P g) ys fun ys =>
        match mkRes C.P g (fun i => .t (ys.getD i default)) with
        | some v => K v h1
        | none => none) else none) = some r := by
      by_cases hb : (q || scalarRes C.P g) = true
      · exact ⟨h, hh, Ext.refl _ _ _, fun _ => rfl, by simp only [hb, if_true] at hr1; exact hr1⟩
      · have hb' : (q || scalarRes C.P g) = false := by simpa using hb
        obtain ⟨hh1, x1⟩ := freezeAll_ok ls hh
        refine ⟨freezeAll h ls, hh1, x1, fun e => ?_, by simp only [hb', Bool.false_eq_true, if_false] at hr1; exact hr1⟩
        rw [e] at hb'
        cases hb'
    clear hr1
    have hls1 := hls.ext x1
    obtain ⟨xs, hr3, hxl, _, hxt⟩ := convs_ok (vs := us) hr2 hh1 (by simpa using hls1.1) (cellsRel_list hls1)
    clear hr2
    obtain ⟨hgo, hr3⟩ := ite_some hr3
    obtain ⟨ys, hy, hr4⟩ := bind_some hr3
    clear hr3
    have hr4 := retYs_ok hr4
    split at hr4
    · rename_i v hm
      have hpure := hpc g xs ys hy
      rw [if_pos hgo] at hpure
      have hfn : ∃ fn, C.P.funcs[g]? = some fn := by
        unfold mkRes at hm
        split at hm
        · rename_i fn hf; exact ⟨fn, hf⟩
        · cases hm
      obtain ⟨fn, hf⟩ := hfn
      have hul : us.length = xs.length := by rw [hxl]; simpa using hls1.1
      have hleaf : ∀ (Bc : Nat → Prop), (∀ b, Bc b → B b ∨ ((!scalarRes C.P g) = true ∧ Ex κ h1 b)) → ∀ j u, us[j]? = some u → VRel Bc [] [] w (.t (xs.getD (0 + j) default)) u := by
        intro Bc hBc j u hu
        have hj : j < xs.length := by rw [← hul]; exact lt_of_get hu
        have := hxt j _ u (getD_of_lt xs j default hj) hu
        rw [Nat.zero_add]
        exact .t _ _ (this.less fun b hb => hb.elim (hBc b) fun e => (ex_empty e).elim)
      by_cases hscal : scalarRes C.P g = true
      · obtain ⟨avs', ha1, ha2⟩ := hbuild (fun _ => False) [] [] w (fun i => .t (xs.getD i default)) 0 (fun j u hu => hleaf (fun _ => False) (fun b hb => hb.elim) j u hu)
        have ha3 : mkArgs C.P g (fun i => .t (xs.getD i default)) = some avs' := by
          unfold mkArgs
          unfold paramTs at ha1
          rw [hf] at ha1 ⊢
          exact ha1
        refine (hpure (fun _ => False) w avs' vs n ha3 (fun b hb => hb.elim) ha2).mono ?_
        rintro e w' ⟨val, rv, rfl, hm', hv, hg, hsc⟩
        rw [hm] at hm'
        cases hm'
        have hsy := hsc hscal
        refine ⟨val, v, h1, κ, rfl, hr4, mkRes_transfer hm (fun i u ht => scalar_any (scalar_getD hsy i) ht) hv, grow_hrel hh1 hg, x1.trans (grow_ext hh1 hg), fun e => ⟨hqq e, rfl⟩⟩
      · have hns : (!scalarRes C.P g) = true := by simpa using hscal
        obtain ⟨avs', ha1, ha2⟩ := hbuild (fun b => B b ∨ Ex κ h1 b) [] [] w (fun i => .t (xs.getD i default)) 0 (fun j u hu => hleaf _ (fun b hb => hb.imp id fun e => ⟨hns, e⟩) j u hu)
        have ha3 : mkArgs C.P g (fun i => .t (xs.getD i default)) = some avs' := by
          unfold mkArgs
          unfold paramTs at ha1
          rw [hf] at ha1 ⊢
          exact ha1
        refine (hpure (fun b => B b ∨ Ex κ h1 b) w avs' vs n ha3 (fun b hb => hb.elim (hh1.ltB b) fun ⟨i, base, o, hk, _, _⟩ => hh1.lt i b base hk) ha2).mono ?_
        rintro e w' ⟨val, rv, rfl, hm', hv, hg, hsc⟩
        rw [hm] at hm'
        cases hm'
        exact ⟨val, v, h1, κ, rfl, hr4, mkRes_transfer hm (fun i u ht => ht.less fun b hb => .inl hb) hv, grow_hrel hh1 hg, x1.trans (grow_ext hh1 hg), fun e => ⟨hqq e, rfl⟩⟩
    · cases hr4

end Ab
