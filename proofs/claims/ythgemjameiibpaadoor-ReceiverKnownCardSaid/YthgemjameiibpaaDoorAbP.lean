/- Soundness: code. -/
import Derived.Test.YthgemjameiibpaaDoorAbO
import Derived.LoopNIn
set_option linter.unusedVariables false
set_option linter.unusedSimpArgs false
namespace Ab
open Go

variable {R : Type} {B : Nat → Prop} {κ : KMap} {h : Heap} {w : World} {N : Nat} {env : Env} {a : Act} {ro : Option Nat} {base : Nat}

theorem Post.of {W W' : List Tmp} {K : Exit → Env → Heap → Option R} {r : R} {e : Exit} {a' : Act} {w' : World} {κ1 : KMap} {env1 : Env} {h1 : Heap} {w1 : World} (x : Ext κ h w κ1 h1 w1) (hW : ∀ i, i ∉ W → env1 i = env i) (hsub : ∀ i, i ∉ W → i ∉ W')
    (hp : Post B N ro base κ1 env1 h1 w1 W' K r e a' w') : Post B N ro base κ env h w W K r e a' w' := by
  obtain ⟨env', h', κ', k1, k2, k3, k4⟩ := hp
  exact ⟨env', h', κ', k1, k2, x.trans k3, fun i hi => (k4 i (hsub i hi)).trans (hW i hi)⟩

/-- The statement of a range over a function. -/
def RangeOk (C : Cfg) (fn : FuncId) (N : Nat) (rec : Rec) : Prop := ∀ {R : Type} (B : Nat → Prop) (ro : Option Nat) (base n : Nat) (f : Operand) (params : Array Tmp) (assign body : Code) (env : Env) (h : Heap) (K : Exit → Env → Heap → Option R) (r : R) (κ : KMap) (a : Act) (w : World),
  (match ev env f with
    | .func (.func g) first captured => if enters C.P g = false then none else
      rec R (.fn g (first ++ [.yld h.length] ++ captured)) (h ++ [.loop { fn, size := N, env, params := params.toList, assign, body, busy := false, pending := none, ended := false, hl := h.length }]) fun _ h1 =>
        (jumpOf h1 h.length).bind fun j => if (((h1.take h.length).all (obelow h.length)) = true) then (match j with
          | none => K .normal env (h1.take h.length)
          | some c => (exitOf c).bind fun e => K e env (h1.take h.length)) else none
    | _ => none) = some r → St B N ro base κ env h a w → (Code.rangeFunc f params assign body).wpIn (Fr ro) n C.P (Post B N ro base κ env h w [] K r) a w

theorem take_self {α : Type} {l : List α} {m : Nat} (h : l.length ≤ m) : l.take m = l := List.take_of_length_le h

theorem aexec_ok {C : Cfg} {hi : Hints} {fn : FuncId} {rec : Rec} {pc : PRec} {fuel : Nat} (hrec : RecOk C.P rec) (hpc : PRecOk C.P pc) (hmix : C.P.follows .mixedOrders = true) (hrange : RangeOk C fn N rec) (n : Nat) :
    ∀ (c : Code) {env : Env} {h : Heap} {K : Exit → Env → Heap → Option R} {r : R} {κ : KMap} {a : Act} {w : World}, aexec C hi fn N rec pc fuel c env h K = some r → St B N ro base κ env h a w →
      c.wpIn (Fr ro) n C.P (Post B N ro base κ env h w (writes c) K r) a w := by
  intro c
  induction c with
  | skip => intro env h K r κ a w hk hs; exact wpIn_skip ⟨env, h, κ, hk, hs, Ext.refl _ _ _, fun _ _ => rfl⟩
  | label l => intro env h K r κ a w hk hs; exact wpIn_label ⟨env, h, κ, hk, hs, Ext.refl _ _ _, fun _ _ => rfl⟩
  | ret => intro env h K r κ a w hk hs; exact wpIn_ret ⟨env, h, κ, hk, hs, Ext.refl _ _ _, fun _ _ => rfl⟩
  | exit id => intro env h K r κ a w hk hs; exact wpIn_exit ⟨env, h, κ, hk, hs, Ext.refl _ _ _, fun _ _ => rfl⟩
  | goto l => intro env h K r κ a w hk hs; simp [aexec, cnd_eq] at hk
  | refuse why => intro env h K r κ a w hk hs; simp [aexec, cnd_eq] at hk
  | scope c _ => intro env h K r κ a w hk hs; simp [aexec, cnd_eq] at hk
  | region id ops draw =>
    intro env h K r κ a w hk hs
    simp only [aexec, cnd_eq] at hk
    split at hk
    · unfold join at hk
      refine region_ok hrec hpc hmix hk hs.rel _ n ro fun env' h' κ' a' w' k1 k2 k3 k4 k5 k6 => ?_
      obtain ⟨s, hs', k7, k8, k9, k10, _⟩ := pack_ok (W := dsts ops) k1 hs.rel k2 k3 k4
      exact ⟨_, _, _, k7, hs.next k8 k9 k5, k9, k10⟩
    · refine region_ok hrec hpc hmix hk hs.rel _ n ro fun env' h' κ' a' w' k1 k2 k3 k4 k5 k6 => ?_
      exact ⟨env', h', κ', k1, hs.next k2 k3 k5, k3, k4⟩
  | seq x y ihx ihy =>
    intro env h K r κ a w hk hs
    simp only [aexec, cnd_eq] at hk
    refine wpIn_seq (wpIn_mono (ihx hk hs) ?_)
    intro e a' w' hp
    obtain ⟨env', h', κ', k1, k2, k3, k4⟩ := hp
    cases e with
    | normal =>
      show y.wpIn (Fr ro) n C.P _ a' w'
      refine wpIn_mono (ihy k1 k2) fun e2 a2 w2 hp2 => ?_
      exact Post.of k3 (fun i hni => k4 i fun hm => hni (by simp [writes, hm])) (fun i hni hm => hni (by simp [writes, hm])) hp2
    | exit id => exact ⟨env', h', κ', k1, k2, k3, fun i hni => k4 i fun hm => hni (by simp [writes, hm])⟩
    | goto l => exact ⟨env', h', κ', k1, k2, k3, fun i hni => k4 i fun hm => hni (by simp [writes, hm])⟩
    | ret => exact ⟨env', h', κ', k1, k2, k3, fun i hni => k4 i fun hm => hni (by simp [writes, hm])⟩
    | panic ch => exact ⟨env', h', κ', k1, k2, k3, fun i hni => k4 i fun hm => hni (by simp [writes, hm])⟩
    | outgrown => exact ⟨env', h', κ', k1, k2, k3, fun i hni => k4 i fun hm => hni (by simp [writes, hm])⟩
  | cond c x y ihx ihy =>
    intro env h K r κ a w hk hs
    simp only [aexec, cnd_eq] at hk
    obtain ⟨t, ht, hk1⟩ := bind_some hk
    have hcv := asBool_ok ht (ev_ok hs.rel c)
    refine wpIn_cond hcv ?_
    split at hk1
    · obtain ⟨env1, h1, κ1, k1, k2, k3, k4⟩ := rowifyE_ok (W := writes x ++ writes y) hk1 hs.rel filter_mem
      have hs1 : St B N ro base κ1 env1 h1 a w := hs.next k2 k3 rfl
      unfold join at k1
      have fin : ∀ (z : Code) (hz : ∀ i, i ∈ writes z → i ∈ writes x ++ writes y), z.wpIn (Fr ro) n C.P (Post B N ro base κ1 env1 h1 w (writes z) (fun e env' h' => match e with
            | .normal => packK hi.tm env1 h1 (hi.cond (condKey c)) env' h' fun s hs => K .normal (unpackE hi.tm (writes x ++ writes y) (hi.cond (condKey c)) env1 s) (unpackH h1 0 hs)
            | e => K e env' h') r) a w → z.wpIn (Fr ro) n C.P (Post B N ro base κ env h w (writes (.cond c x y)) K r) a w := by
        intro z hz hw
        refine wpIn_mono hw fun e a' w' hp => ?_
        obtain ⟨env', h', κ', j1, j2, j3, j4⟩ := hp
        have j4' : ∀ i, i ∉ writes x ++ writes y → env' i = env1 i := fun i hni => j4 i fun hm => hni (hz i hm)
        cases e with
        | normal =>
          obtain ⟨s, hs', k7, k8, k9, k10⟩ := pack_st (W := writes x ++ writes y) j1 hs1 j2 j3 j4'
          exact ⟨_, _, _, k7, k8, k3.trans k9, fun i hni => (k10 i hni).trans (k4 i hni)⟩
        | exit id => exact ⟨env', h', κ', j1, j2, k3.trans j3, fun i hni => (j4' i hni).trans (k4 i hni)⟩
        | goto l => exact ⟨env', h', κ', j1, j2, k3.trans j3, fun i hni => (j4' i hni).trans (k4 i hni)⟩
        | ret => exact ⟨env', h', κ', j1, j2, k3.trans j3, fun i hni => (j4' i hni).trans (k4 i hni)⟩
        | panic ch => exact ⟨env', h', κ', j1, j2, k3.trans j3, fun i hni => (j4' i hni).trans (k4 i hni)⟩
        | outgrown => exact ⟨env', h', κ', j1, j2, k3.trans j3, fun i hni => (j4' i hni).trans (k4 i hni)⟩
      cases t with
      | true => exact fin x (fun i hm => by simp [hm]) (ihx k1 hs1)
      | false => exact fin y (fun i hm => by simp [hm]) (ihy k1 hs1)
    · cases t with
      | true => exact wpIn_mono (ihx hk1 hs) fun e a' w' hp => Post.of (Ext.refl _ _ _) (fun _ _ => rfl) (fun i hni hm => hni (by simp [writes, hm])) hp
      | false => exact wpIn_mono (ihy hk1 hs) fun e a' w' hp => Post.of (Ext.refl _ _ _) (fun _ _ => rfl) (fun i hni hm => hni (by simp [writes, hm])) hp
  | block id x ih =>
    intro env h K r κ a w hk hs
    simp only [aexec, cnd_eq] at hk
    refine wpIn_block ?_
    generalize (if falls x = true then 1 else 0) = one at hk
    split at hk
    · refine wpIn_mono (ih hk hs) fun e a' w' hp => ?_
      obtain ⟨env', h', κ', j1, j2, j3, j4⟩ := hp
      cases e with
      | exit id' =>
        simp only [Exit.inBlock]
        dsimp only at j1
        split at j1
        · rename_i he; rw [if_pos he]; exact ⟨env', h', κ', j1, j2, j3, j4⟩
        · rename_i he; rw [if_neg he]; exact ⟨env', h', κ', j1, j2, j3, j4⟩
      | normal => exact ⟨env', h', κ', j1, j2, j3, j4⟩
      | goto l => exact ⟨env', h', κ', j1, j2, j3, j4⟩
      | ret => exact ⟨env', h', κ', j1, j2, j3, j4⟩
      | panic ch => exact ⟨env', h', κ', j1, j2, j3, j4⟩
      | outgrown => exact ⟨env', h', κ', j1, j2, j3, j4⟩
    · obtain ⟨env1, h1, κ1, k1, k2, k3, k4⟩ := rowifyE_ok (W := writes x) hk hs.rel filter_mem
      have hs1 : St B N ro base κ1 env1 h1 a w := hs.next k2 k3 rfl
      unfold join at k1
      refine wpIn_mono (ih k1 hs1) fun e a' w' hp => ?_
      obtain ⟨env', h', κ', j1, j2, j3, j4⟩ := hp
      have k5 : ∀ i, i ∉ writes x → env' i = env i := fun i hni => (j4 i hni).trans (k4 i hni)
      cases e with
      | exit id' =>
        simp only [Exit.inBlock]
        dsimp only at j1
        split at j1
        · rename_i he
          rw [if_pos he]
          obtain ⟨s, hs', k7, k8, k9, k10⟩ := pack_st (W := writes x) j1 hs1 j2 j3 j4
          exact ⟨_, _, _, k7, k8, k3.trans k9, fun i hni => (k10 i hni).trans (k4 i hni)⟩
        · rename_i he; rw [if_neg he]; exact ⟨env', h', κ', j1, j2, k3.trans j3, k5⟩
      | normal =>
        obtain ⟨s, hs', k7, k8, k9, k10⟩ := pack_st (W := writes x) j1 hs1 j2 j3 j4
        exact ⟨_, _, _, k7, k8, k3.trans k9, fun i hni => (k10 i hni).trans (k4 i hni)⟩
      | goto l => exact ⟨env', h', κ', j1, j2, k3.trans j3, k5⟩
      | ret => exact ⟨env', h', κ', j1, j2, k3.trans j3, k5⟩
      | panic ch => exact ⟨env', h', κ', j1, j2, k3.trans j3, k5⟩
      | outgrown => exact ⟨env', h', κ', j1, j2, k3.trans j3, k5⟩
  | loop x ih =>
    intro env h K r κ a w hk hs
    simp only [aexec, cnd_eq] at hk
    obtain ⟨env1, h1, κ1, k1, k2, k3, k4⟩ := rowifyE_ok (W := writes x) hk hs.rel filter_mem
    have hs1 : St B N ro base κ1 env1 h1 a w := hs.next k2 k3 rfl
    obtain ⟨s, hs', k7, k8, k9, k10⟩ := pack_st (W := writes x) k1 hs1 hs1 (Ext.refl _ _ _) (fun _ _ => rfl)
    refine wpIn_loop_rounds fuel ?_
    revert k7 k8 k9 k10
    generalize κ1.take h1.length = κ2
    have key : ∀ (m : Nat) (s : List AV) (hs' : Heap) (κ2 : KMap) (a2 : Act) (w2 : World), loopIter (fun (p : List AV × Heap) again => aexec C hi fn N rec pc fuel x (unpackE hi.tm (writes x) (hi.loop (firstReg x)) env1 p.1) (unpackH h1 0 p.2) fun e env' h' => match e with
        | .normal => packK hi.tm env1 h1 (hi.loop (firstReg x)) env' h' fun s hs => again (s, hs)
        | e => K e env' h') m (s, hs') = some r → St B N ro base κ2 (unpackE hi.tm (writes x) (hi.loop (firstReg x)) env1 s) (unpackH h1 0 hs') a2 w2 → Ext κ1 h1 w κ2 (unpackH h1 0 hs') w2 →
        (∀ i, i ∉ writes x → unpackE hi.tm (writes x) (hi.loop (firstReg x)) env1 s i = env1 i) → Code.roundsIn (Fr ro) n C.P x (Post B N ro base κ env h w (writes x) K r) m a2 w2 := by
      intro m
      induction m with
      | zero => intro s hs' κ2 a2 w2 q1 q2 q3 q4; simp [loopIter] at q1
      | succ m ihm =>
        intro s hs' κ2 a2 w2 q1 q2 q3 q4
        simp only [loopIter] at q1
        show x.wpIn (Fr ro) n C.P (Exit.then (Code.roundsIn (Fr ro) n C.P x (Post B N ro base κ env h w (writes x) K r) m) (Post B N ro base κ env h w (writes x) K r)) a2 w2
        refine wpIn_mono (ih q1 q2) fun e a' w' hp => ?_
        obtain ⟨env', h', κ', j1, j2, j3, j4⟩ := hp
        have j4' : ∀ i, i ∉ writes x → env' i = env1 i := fun i hni => (j4 i hni).trans (q4 i hni)
        have k5 : ∀ i, i ∉ writes x → env' i = env i := fun i hni => (j4' i hni).trans (k4 i hni)
        cases e with
        | normal =>
          obtain ⟨s3, hs3, k7, k8, k9, k10⟩ := pack_st (W := writes x) j1 hs1 j2 (q3.trans j3) j4'
          exact ihm s3 hs3 _ a' w' k7 k8 k9 k10
        | exit id' => exact ⟨env', h', κ', j1, j2, k3.trans (q3.trans j3), k5⟩
        | goto l => exact ⟨env', h', κ', j1, j2, k3.trans (q3.trans j3), k5⟩
        | ret => exact ⟨env', h', κ', j1, j2, k3.trans (q3.trans j3), k5⟩
        | panic ch => exact ⟨env', h', κ', j1, j2, k3.trans (q3.trans j3), k5⟩
        | outgrown => exact ⟨env', h', κ', j1, j2, k3.trans (q3.trans j3), k5⟩
    exact fun k7 k8 k9 k10 => key fuel s hs' κ2 a w k7 k8 k9 k10
  | rangeFunc f params assign body _ _ =>
    intro env h K r κ a w hk hs
    simp only [aexec, cnd_eq] at hk
    exact hrange B ro base n f params assign body env h K r κ a w hk hs

end Ab
