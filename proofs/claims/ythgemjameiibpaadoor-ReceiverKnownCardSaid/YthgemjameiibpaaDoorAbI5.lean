/- slices.Insert as one step of the evaluator. -/
import Derived.Test.YthgemjameiibpaaDoorAbI4
set_option linter.unusedVariables false
set_option linter.unusedSimpArgs false
namespace Ab
open Go Go.Proofs Go.Shelf
variable {P : Program} {B : Nat → Prop} {κ : KMap} {h : Heap} {w : World} {R : Type}

theorem ins_appSz {ρ : Ren} {z : Nat} (L : InsLay P ρ z) : appSz P (ρ.t 24) = some z := by
  obtain ⟨i, zv, h1, h2, h3, h4, h5⟩ := L.i9
  have := L.pos
  simp only [appSz, L.t24, h1, h2]
  rw [if_pos ⟨by omega, by omega, h5⟩, h3]

theorem ains_ok {ρ : Ren} {z : Nat} (L : InsLay P ρ z) {avs : List AV} {K : AV → Heap → Option R} {r : R} (hr : ains z h avs K = some r) (hh : HRel B κ h w) {vs : Array Value} (hc : CellsRel B κ h w avs vs) (n : Nat) :
    CallsIn (Fr none) n P (ρ.f 22) vs w fun e w' => ∃ val v h' κ', e = .returned val ∧ K v h' = some r ∧ VRel B κ' h' w' v val ∧ HRel B κ' h' w' ∧ Ext κ h w κ' h' w' := by
  refine calls_in ?_
  unfold ains at hr
  try simp only [cnd_eq] at hr
  split at hr
  · rename_i s kx z' new
    obtain ⟨k, hk, hr1⟩ := bind_some hr
    obtain ⟨⟨rfl, hn0⟩, hr2⟩ := ite_some hr1
    clear hr hr1
    obtain ⟨vs⟩ := vs
    have hl : vs.length = 3 := by simpa using hc.1
    match vs, hl with
    | [v0, v1, v2], _ =>
    have c0 : VRel B κ h w s v0 := hc.2 0 s rfl
    have c1 : VRel B κ h w kx v1 := hc.2 1 kx rfl
    have c2 : VRel B κ h w (.t (.sl z' new)) v2 := hc.2 2 _ rfl
    have hk1 : v1 = .int .i64 k := asIntK_ok hk c1
    subst hk1
    have hnew : new ≠ [] := fun e => hn0 (by rw [e]; rfl)
    have hpos : 0 < new.length := List.length_pos_iff.2 hnew
    obtain ⟨va, vc, hva⟩ : ∃ va vc, v2 = .slice va new.length vc := by
      cases c2 with
      | t _ _ ht => cases ht with
        | nil => exact (hnew rfl).elim
        | sl _ _ b0 o0 c0 u _ _ hA _ _ _ => exact ⟨_, _, rfl⟩
    split at hr2
    · obtain ⟨⟨rfl, hle⟩, hK⟩ := ite_some hr2
      have hap : aappend P (ρ.t 24) h .nilsl (.t (.sl z' new)) K = some r := by
        simp [aappend, ins_appSz L, elems, cnd_eq, hle, hK]
      obtain ⟨v, h', κ', val, w', h1, h2, h3, h4, h5⟩ := aappend_ok hap hh c0 c2 0
      cases c0 with
      | nilsl a0 =>
        subst hva
        refine (ins_nil L a0 new.length vc va w w' val hpos fun ty => h2).mono ?_
        rintro e w2 ⟨rfl, rfl⟩
        exact ⟨_, _, _, _, rfl, h1, h3, h4, h5⟩
    · rename_i i ver off len
      split at hr2
      · rename_i ver' size es hi
        obtain ⟨⟨rfl, rfl, hoff, hle, hk0, hkl⟩, hK⟩ := ite_some hr2
        obtain ⟨k', rfl⟩ := Int.eq_ofNat_of_zero_le hk0
        simp only [Int.toNat_natCast] at hK
        have hdl : (es.drop off).length = len := by simp; omega
        by_cases hkk : k' = len
        · subst hkk
          have hap : aappend P (ρ.t 24) h (.sref i ver' off k') (.t (.sl size new)) K = some r := by
            have hA : (es.drop off).take k' = es.drop off := List.take_of_length_le (by omega)
            have hB : (es.drop off).drop k' = [] := List.drop_eq_nil_of_le (by omega)
            rw [hA, hB, List.append_nil] at hK
            simp [aappend, ins_appSz L, elems, cnd_eq, hi, hoff, hle, hA, hK]
          obtain ⟨v, h', κ', val, w', h1, h2, h3, h4, h5⟩ := aappend_ok hap hh c0 c2 0
          cases c0 with
          | sref _ _ _ _ _ _ hex hsr =>
          obtain ⟨kk, hkk⟩ := kap_some hh hi
          obtain ⟨_, _, hm⟩ := hsr kk _ hkk hi rfl
          have ho := hh.obj i _ _ hi hkk
          subst hva
          cases kk with
          | none =>
            obtain ⟨a0, rfl⟩ := hm
            have hes : es = [] := ho
            subst hes
            obtain rfl : k' = 0 := by simp at hoff; omega
            refine (ins_nil L a0 new.length vc va w w' val hpos fun ty => h2).mono ?_
            rintro e w2 ⟨rfl, rfl⟩
            exact ⟨_, _, _, _, rfl, h1, h3, h4, h5⟩
          | some p =>
            obtain ⟨b, base⟩ := p
            obtain ⟨cap, rfl, hcap', hcs⟩ := hm
            have hcap : k' ≤ cap := by simp only [AObj.len] at hcap'; omega
            refine (ins_end L b _ k' cap new.length vc va w w' val hpos hcap (by omega) fun ty => h2).mono ?_
            rintro e w2 ⟨rfl, rfl⟩
            exact ⟨_, _, _, _, rfl, h1, h3, h4, h5⟩
        · refine (ins_row_ok L hh hi hoff (by omega) hnew hle c0 (by cases c2 with | t _ _ ht => exact ht)).mono ?_
          rintro e w' ⟨val, κ', rfl, h3, h4, h5⟩
          exact ⟨_, _, _, _, rfl, hK, h3, h4, h5⟩
      · cases hr2
    · cases hr2
  · cases hr

theorem agrow_ok {ρ : Ren} {z : Nat} (L : GrowLay P ρ z) {avs : List AV} {K : AV → Heap → Option R} {r : R} (hr : agrow z h avs K = some r) (hh : HRel B κ h w) {vs : Array Value} (hc : CellsRel B κ h w avs vs) (n : Nat) :
    CallsIn (Fr none) n P (ρ.f 4) vs w fun e w' => ∃ val v h' κ', e = .returned val ∧ K v h' = some r ∧ VRel B κ' h' w' v val ∧ HRel B κ' h' w' ∧ Ext κ h w κ' h' w' := by
  refine calls_in ?_
  unfold agrow at hr
  try simp only [cnd_eq] at hr
  split at hr
  · rename_i nx
    obtain ⟨k, hk, hr1⟩ := bind_some hr
    obtain ⟨⟨h0, hle⟩, hK⟩ := ite_some hr1
    obtain ⟨vs⟩ := vs
    have hl : vs.length = 2 := by simpa using hc.1
    match vs, hl with
    | [v0, v1], _ =>
    have c0 : VRel B κ h w .nilsl v0 := hc.2 0 _ rfl
    have c1 : VRel B κ h w nx v1 := hc.2 1 nx rfl
    obtain rfl : v1 = .int .i64 k := asIntK_ok hk c1
    obtain ⟨m, rfl⟩ := Int.eq_ofNat_of_zero_le h0
    obtain ⟨i, zv, hi, hzv, hsz, hzs, hby⟩ := L.i25
    have hz0 : z ≠ 0 := by have := L.pos; omega
    cases c0 with
    | nilsl a0 =>
      by_cases hm : m = 0
      · subst hm
        refine (Any8.slices_Grow_room L.lay a0 0 0 0 w (Nat.le_refl _) (by omega) (by omega) (by omega)).mono ?_
        rintro e w' ⟨rfl, he⟩
        subst he
        have x1 : Ext κ h w' (κ ++ [none]) (h ++ [.row false 0 z []]) w' := push_ext hh rfl rfl rfl (Nat.le_refl _) (fun _ _ => rfl) (fun b base e => by cases e)
        have hh1 := push_hrel hh (fun _ _ => rfl) x1 (fun b base e => by cases e) (show ORel B (κ ++ [none]) (h ++ [.row false 0 z []]) w' none (.row false 0 z []) from rfl)
        exact ⟨_, _, _, _, rfl, hK, row_value_none (by rw [← hh.len]; exact snoc_new κ _) (snoc_new h _), hh1, x1⟩
      · have hbig : (0 + m) * i.bytes ≤ 140737488355328 := by
          have h2 : m * i.bytes ≤ 1073741824 * 65536 := Nat.mul_le_mul (by omega) hby
          rw [Nat.zero_add]
          omega
        refine (Any8.slices_Grow_grow L.lay i zv hi hzv (by omega) a0 0 0 m [] w (Nat.le_refl _) (by omega) hbig (by omega) (by simp) (fun _ => rfl) (fun a _ j v hj => by simp at hj)).mono ?_
        rintro e w' ⟨rfl, rfl⟩
        generalize hC : ([] : List Value).toArray ++ Builtin.zeroCells zv.cells (0 + m - 0) ++ Builtin.zeroCells zv.cells (grownCap w (0 + m) 0 (ρ.t 25) - (0 + m)) = CS
        have hge := grownCap_ge w (0 + m) 0 (ρ.t 25)
        have hCs : CS.size = grownCap w (0 + m) 0 (ρ.t 25) * z := by
          rw [← hC]
          simp only [Array.size_append, List.size_toArray, List.length_nil, size_zeroCells, hzs]
          rw [Nat.zero_add, ← Nat.add_mul]
          congr 1
          omega
        have h5 : ∀ b', b' < w.heap.size → (w.drew.alloc (.cells CS (ρ.t 25))).heap[b']? = w.heap[b']? := fun b' hb' => heap_alloc_lt w.drew _ hb'
        have x1 : Ext κ h w (κ ++ [some (w.heap.size, 0)]) (h ++ [.row false 0 z []]) (w.drew.alloc (.cells CS (ρ.t 25))) :=
          push_ext (w' := w.drew.alloc _) hh rfl rfl rfl (by simp) h5 fun b base e => by injection e with e; injection e with e; omega
        have hnew := heap_alloc_at w.drew (.cells CS (ρ.t 25))
        have hh1 := push_hrel hh h5 x1 (fun b base e => by injection e with e; injection e with e; subst e; exact ⟨Nat.le_refl _, by simp⟩)
          (orel_row hz0 hnew (by simp) ⟨fun j e he => by simp at he, fun j e c x he => by simp at he⟩)
        exact ⟨_, _, _, _, rfl, hK, row_value (by rw [← hh.len]; exact snoc_new κ _) (snoc_new h _) hnew (by rw [hCs]; omega) rfl (Nat.zero_le _), hh1, x1⟩
  · cases hr

theorem aprim_ok {g : FuncId} {p : Prim} (L : PrimOk P g p) {avs : List AV} {K : AV → Heap → Option R} {r : R} (hr : aprim p h avs K = some r) (hh : HRel B κ h w) {vs : Array Value} (hc : CellsRel B κ h w avs vs) (n : Nat) :
    CallsIn (Fr none) n P g vs w fun e w' => ∃ val v h' κ', e = .returned val ∧ K v h' = some r ∧ VRel B κ' h' w' v val ∧ HRel B κ' h' w' ∧ Ext κ h w κ' h' w' := by
  cases p with
  | ins z =>
    obtain ⟨ρ, rfl, hL⟩ := L
    exact ains_ok hL hr hh hc n
  | grow z =>
    obtain ⟨ρ, rfl, hL⟩ := L
    exact agrow_ok hL hr hh hc n
end Ab
