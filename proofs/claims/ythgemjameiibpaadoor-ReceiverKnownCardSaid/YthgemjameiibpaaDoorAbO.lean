/- Soundness: code. -/
import Derived.Test.YthgemjameiibpaaDoorAbN
set_option linter.unusedVariables false
set_option linter.unusedSimpArgs false
namespace Ab
open Go

variable {R : Type} {P : Program} {B : Nat → Prop} {κ : KMap} {h : Heap} {w : World} {N : Nat} {env : Env} {a : Act} {ro : Option Nat} {base : Nat}

def mark (r : Nat) : Deferred := { target := .collected r, args := #[] }
def Marks (base : Nat) (κ : KMap) (h : Heap) (w : World) (ds : List Deferred) : Prop :=
  ∃ rs : List Nat, ds = rs.map mark ∧ rs.Nodup ∧ ∀ r ∈ rs, base ≤ r ∧ w.heap[r]? = some (.deferred (some [])) ∧ ¬ Ex κ h r
def RoundRel (ro : Option Nat) (κ : KMap) (h : Heap) : Prop := ∀ b, ro = some b → ∃ (i d : Nat) (l : LoopRec), κ[i]? = some (some (b, d)) ∧ h[i]? = some (.loop l)

structure St (B : Nat → Prop) (N : Nat) (ro : Option Nat) (base : Nat) (κ : KMap) (env : Env) (h : Heap) (a : Act) (w : World) : Prop where
  rel : Rel B N κ env h a w
  marks : Marks base κ h w a.defers
  round : RoundRel ro κ h
  bsz : base ≤ w.heap.size

theorem heap_lt {r : Nat} {o : Obj} (hr : w.heap[r]? = some o) : r < w.heap.size := by
  rcases Nat.lt_or_ge r w.heap.size with y | y
  · exact y
  · rw [Array.getElem?_eq_none y] at hr; cases hr

theorem Marks.ext {κ' : KMap} {h' : Heap} {w' : World} (x : Ext κ h w κ' h' w') {ds : List Deferred} (hm : Marks base κ h w ds) : Marks base κ' h' w' ds := by
  obtain ⟨rs, h1, h2, h3⟩ := hm
  refine ⟨rs, h1, h2, fun r hr => ?_⟩
  obtain ⟨h4, h5, h6⟩ := h3 r hr
  have hlt := heap_lt h5
  refine ⟨h4, (x.keep r hlt h6).trans h5, fun he => ?_⟩
  rcases x.ex r he with y | y
  · exact h6 y
  · omega

theorem RoundRel.ext {κ' : KMap} {h' : Heap} {w' : World} (x : Ext κ h w κ' h' w') (hm : RoundRel ro κ h) : RoundRel ro κ' h' := by
  intro b hb
  obtain ⟨i, d, l, h1, h2⟩ := hm b hb
  obtain ⟨o', h3, h4⟩ := x.obj i _ h2
  have hk := h4.1
  cases o' with
  | loop l' => exact ⟨i, d, l', (x.kap i _ _ h2 h3 rfl).trans h1, h3⟩
  | box cs => simp [AObj.kind] at hk
  | row a b c d => simp [AObj.kind] at hk

theorem St.next (hs : St B N ro base κ env h a w) {κ' : KMap} {env' : Env} {h' : Heap} {a' : Act} {w' : World} (hr : Rel B N κ' env' h' a' w') (x : Ext κ h w κ' h' w') (hd : a'.defers = a.defers) : St B N ro base κ' env' h' a' w' :=
  ⟨hr, by rw [hd]; exact hs.marks.ext x, hs.round.ext x, Nat.le_trans hs.bsz x.size⟩

/-- What is known where code is left. -/
def Post (B : Nat → Prop) (N : Nat) (ro : Option Nat) (base : Nat) (κ : KMap) (env : Env) (h : Heap) (w : World) (W : List Tmp) (K : Exit → Env → Heap → Option R) (r : R) (e : Exit) (a' : Act) (w' : World) : Prop :=
  ∃ env' h' κ', K e env' h' = some r ∧ St B N ro base κ' env' h' a' w' ∧ Ext κ h w κ' h' w' ∧ ∀ i, i ∉ W → env' i = env i

theorem findIdx_ok : ∀ (L : List Tmp) (i : Tmp) (k j : Nat), findIdx i L k = some j → ∃ m, j = k + m ∧ L[m]? = some i
  | [], i, k, j, h => by simp [findIdx] at h
  | x :: L, i, k, j, h => by
    simp only [findIdx] at h
    split at h
    · rename_i e; cases h; exact ⟨0, rfl, by simp [e]⟩
    · obtain ⟨m, h1, h2⟩ := findIdx_ok L i (k + 1) j h
      exact ⟨m + 1, by omega, by simpa using h2⟩

theorem pack_ok {tm : Tmp → AV} {env0 : Env} {h0 : Heap} {κ0 : KMap} {w0 : World} {a0 : Act} {L W : List Tmp} {K : List AV → Heap → Option R} {r : R} (hk : packK tm env0 h0 L env h K = some r) (hs0 : Rel B N κ0 env0 h0 a0 w0) (hr : Rel B N κ env h a w) (x : Ext κ0 h0 w0 κ h w)
    (hW : ∀ i, i ∉ W → env i = env0 i) :
    ∃ s hs, K s hs = some r ∧ Rel B N (κ.take h0.length) (unpackE tm W L env0 s) (unpackH h0 0 hs) a w ∧ Ext κ0 h0 w0 (κ.take h0.length) (unpackH h0 0 hs) w ∧ (∀ i, i ∉ W → unpackE tm W L env0 s i = env0 i) ∧ ∀ b, Ex (κ.take h0.length) (unpackH h0 0 hs) b → Ex κ h b := by
  unfold packK at hk
  try simp only [cnd_eq] at hk
  obtain ⟨hL, hk1⟩ := ite_some hk
  obtain ⟨hs, hk2, hun, hbe⟩ := cutK_ok hk1 (ext_shape x)
  have hLi : ∀ (m : Nat) (i : Tmp), L[m]? = some i → below 4 h0.length (env i) = true ∧ shapeA (baseV tm env0 i) (env i) = true := fun m i hm => by
    have := all_get hL hm
    simpa using this
  have hget : ∀ (i : Tmp) (k : Nat), findIdx i L 0 = some k → reshapeA (baseV tm env0 i) ((L.map env).getD k .undef) = env i ∧ below 4 h0.length (env i) = true := fun i k hf => by
    obtain ⟨m, rfl, hm⟩ := findIdx_ok L i 0 k hf
    have h1 : (L.map env).getD (0 + m) .undef = env i := by simp [List.getD, hm]
    rw [h1]
    exact ⟨reshapeA_ok (hLi m i hm).2, (hLi m i hm).1⟩
  refine ⟨_, hs, hk2, ⟨?_, hr.size, fun i => ?_⟩, ?_, fun i hi => ?_, fun b hb => ?_⟩
  · rw [hun]; exact hr.heap.trunc hbe
  · rw [hun]
    unfold unpackE
    cases hf : findIdx i L 0 with
    | some k =>
      obtain ⟨h1, h2⟩ := hget i k hf
      simp only [h1]
      exact (hr.slot i).trunc (below_refs 4 h2)
    | none =>
      dsimp only
      split
      · exact .undef _
      · rename_i hc
        have hni : i ∉ W := fun hm => hc (by simpa using hm)
        rw [← hW i hni]
        refine (hr.slot i).trunc ?_
        rw [hW i hni]
        exact (hs0.slot i).refs
  · rw [hun]; exact x.trunc (Nat.le_refl _)
  · unfold unpackE
    cases hf : findIdx i L 0 with
    | some k =>
      obtain ⟨h1, _⟩ := hget i k hf
      simp only [h1]
      exact hW i hi
    | none =>
      dsimp only
      rw [if_neg (by simpa using hi)]
  · rw [hun] at hb; exact hb.take

theorem Marks.less {κ' : KMap} {h' : Heap} (hx : ∀ b, Ex κ' h' b → Ex κ h b) {ds : List Deferred} (hm : Marks base κ h w ds) : Marks base κ' h' w ds := by
  obtain ⟨rs, h1, h2, h3⟩ := hm
  exact ⟨rs, h1, h2, fun r hr => ⟨(h3 r hr).1, (h3 r hr).2.1, fun he => (h3 r hr).2.2 (hx r he)⟩⟩

theorem pack_st {tm : Tmp → AV} {env0 : Env} {h0 : Heap} {κ0 : KMap} {w0 : World} {a0 : Act} {L W : List Tmp} {K : List AV → Heap → Option R} {r : R} (hk : packK tm env0 h0 L env h K = some r) (hs0 : St B N ro base κ0 env0 h0 a0 w0) (hr : St B N ro base κ env h a w) (x : Ext κ0 h0 w0 κ h w)
    (hW : ∀ i, i ∉ W → env i = env0 i) :
    ∃ s hs, K s hs = some r ∧ St B N ro base (κ.take h0.length) (unpackE tm W L env0 s) (unpackH h0 0 hs) a w ∧ Ext κ0 h0 w0 (κ.take h0.length) (unpackH h0 0 hs) w ∧ ∀ i, i ∉ W → unpackE tm W L env0 s i = env0 i := by
  obtain ⟨s, hs, k1, k2, k3, k4, k5⟩ := pack_ok hk hs0.rel hr.rel x hW
  exact ⟨s, hs, k1, ⟨k2, hr.marks.less k5, hs0.round.ext k3, hr.bsz⟩, k3, k4⟩

theorem rowifyE_ok {hi : Hints} {W : List Tmp} : ∀ {L : List Tmp} {env : Env} {h : Heap} {κ : KMap} {K : Env → Heap → Option R} {r : R}, rowifyE hi L env h K = some r → Rel B N κ env h a w → (∀ i ∈ L, i ∈ W) →
    ∃ env' h' κ', K env' h' = some r ∧ Rel B N κ' env' h' a w ∧ Ext κ h w κ' h' w ∧ ∀ i, i ∉ W → env' i = env i
  | [], env, h, κ, K, r, hk, hr, hL => ⟨env, h, κ, hk, hr, Ext.refl _ _ _, fun _ _ => rfl⟩
  | i :: L, env, h, κ, K, r, hk, hr, hL => by
    simp only [rowifyE] at hk
    split at hk
    · rename_i hn
      have hh := hr.heap
      have hv := hr.slot i
      rw [hn] at hv
      obtain ⟨a0, hval⟩ : ∃ a0, a.tmps.getD i undef = .slice a0 0 0 := by
        generalize a.tmps.getD i undef = u at hv
        cases hv with | nilsl a0 => exact ⟨a0, rfl⟩
      split at hk
      · have hr1 : Rel B N κ (env.put (some i) (.t (.sl (hi.rowsz i) []))) h a w := by
          refine ⟨hh, hr.size, fun j => ?_⟩
          simp only [Env.put]
          by_cases hj : j = i
          · rw [if_pos hj, hj, hval]
            exact .t _ _ (.nil _ _ _)
          · rw [if_neg hj]; exact hr.slot j
        obtain ⟨env', h', κ', k1, k2, k3, k4⟩ := rowifyE_ok (W := W) hk hr1 fun j hj => hL j (by simp [hj])
        refine ⟨env', h', κ', k1, k2, k3, fun j hj => ?_⟩
        rw [k4 j hj]
        simp only [Env.put]
        rw [if_neg fun e => hj (hL j (by simp [e]))]
      generalize hi.rowsz i = z0 at hk
      have x1 : Ext κ h w (κ ++ [none]) (h ++ [.row false 0 z0 []]) w := push_ext hh rfl rfl rfl (Nat.le_refl _) (fun _ _ => rfl) (fun b base e => by cases e)
      have hh1 := push_hrel hh (fun _ _ => rfl) x1 (fun b base e => by cases e) (show ORel B (κ ++ [none]) (h ++ [.row false 0 z0 []]) w none (.row false 0 z0 []) from rfl)
      have hr1 : Rel B N (κ ++ [none]) (env.put (some i) (.sref h.length 0 0 0)) (h ++ [.row false 0 z0 []]) a w := by
        refine ⟨hh1, hr.size, fun j => ?_⟩
        simp only [Env.put]
        by_cases hj : j = i
        · rw [if_pos hj, hj, hval]
          exact row_value_none (by rw [← hh.len]; exact snoc_new κ _) (snoc_new h _)
        · rw [if_neg hj]; exact (hr.slot j).ext x1
      obtain ⟨env', h', κ', k1, k2, k3, k4⟩ := rowifyE_ok (W := W) hk hr1 fun j hj => hL j (by simp [hj])
      refine ⟨env', h', κ', k1, k2, x1.trans k3, fun j hj => ?_⟩
      rw [k4 j hj]
      simp only [Env.put]
      rw [if_neg fun e => hj (hL j (by simp [e]))]
    · exact rowifyE_ok hk hr fun j hj => hL j (by simp [hj])

theorem filter_mem {W L : List Tmp} : ∀ i ∈ L.filter (fun i => W.contains i), i ∈ W := fun i hi => by
  simpa using (List.mem_filter.1 hi).2

end Ab
