/- Soundness: regions. -/
import Derived.Test.YtlgphbnkicihgaaAbM
set_option linter.unusedVariables false
set_option linter.unusedSimpArgs false
namespace Ab
open Go

variable {R : Type} {P : Program} {B : Nat → Prop} {κ : KMap} {h : Heap} {w : World} {N : Nat} {env : Env} {a : Act}

theorem rel_drew (hr : Rel B N κ env h a w) : Rel B N κ env h a { w with drawn := w.drawn + 1 } :=
  ⟨hrel_grow hr.heap (drew_ext hr.heap) fun _ _ => rfl, hr.size, fun i => (hr.slot i).ext (drew_ext hr.heap)⟩

theorem getD_oper {ops : Array Oper} {i : Nat} (hi : i < ops.size) : ops[i]? = some (ops.getD i default) := by
  simp only [Array.getD, hi, dif_pos]
  exact Array.getElem?_eq_getElem hi

theorem take_map {ops : Array Oper} {n : Nat} (hn : n ≤ ops.size) : ops.toList.take n = (List.range n).map fun i => ops.getD i default := by
  apply List.ext_getElem?
  intro i
  rcases Nat.lt_or_ge i n with hi | hi
  · have h1 : i < ops.size := by omega
    rw [List.getElem?_take_of_lt hi, List.getElem?_map, List.getElem?_range hi, Array.getElem?_toList, getD_oper h1]
    rfl
  · rw [List.getElem?_eq_none (by simp; omega), List.getElem?_eq_none (by simp; omega)]

theorem region_ok {C : Cfg} {rec : Rec} {pc : PRec} (hrec : RecOk C.P rec) (hpc : PRecOk C.P pc) (hmix : C.P.follows .mixedOrders = true) {id : Nat} {ops : Array Oper} {draw : Bool} {K : Env → Heap → Option R} {r : R}
    (hk : regionK C rec pc N ops draw env h K = some r) (hr : Rel B N κ env h a w) (Q : Exit → Act → World → Prop) (n : Nat) (ro : Option Nat)
    (hn : NextOps B N κ h w false ops.toList env a K r fun a' w' => Q .normal a' w') : (Code.region id ops draw).wpIn (Fr ro) n C.P Q a w := by
  unfold regionK at hk
  try simp only [cnd_eq] at hk
  cases draw with
  | false =>
    simp only [Bool.false_eq_true, if_false] at hk
    refine wpIn_region ?_
    have := aops_ok hrec hpc ops Q n ro [] ops.toList (List.range ops.size) (by simp) (fun j i o hj ho => by
      have hjl : j < ops.size := by simpa using lt_of_get hj
      rw [List.getElem?_range hjl] at hj
      cases hj
      simpa using ho) hk hr hn
    simpa using this
  | true =>
    simp only [if_true] at hk
    obtain ⟨⟨hdo, hff, hed, hle⟩, hk1⟩ := ite_some hk
    clear hk
    refine wpIn_region_draw fun t => ?_
    have hsch : Region.schedule (C.P.follows .mixedOrders) ops t = Region.linearise .any ops t := by
      simp only [Region.schedule, hmix, Bool.true_or, if_true]
    rw [hsch]
    generalize drawSplit (masks ops) ops.size = m at *
    obtain ⟨p1, p2, p3, p4⟩ := sched_props hed (linearise_sched ops t) (fun i hi => by cases hi)
    obtain ⟨lp, hL, hlpn, hlpm⟩ := forced_tail (n := m) (ops.size - m) (Region.linearise .any ops t) p1 (fun i => by
      constructor
      · intro hi; have := (p2 i hi).2; omega
      · intro hi; exact (p3 i (by omega)).resolve_left (by simp)) (fun l1 x l2 e hx y hy => by
        have hxs : x < ops.size := (p2 x (by rw [e]; simp)).2
        have h1 := (List.all_eq_true.1 hff) x (List.mem_range.2 hxs)
        have h2 : (masks ops).getD x 0 = 2 ^ x - 1 := by
          simp only [Bool.or_eq_true, decide_eq_true_eq, beq_iff_eq] at h1
          exact h1.resolve_left (by omega)
        refine (p4 l1 x l2 e y ?_).resolve_left (by simp)
        rw [h2, Nat.testBit_two_pow_sub_one]
        simpa using hy)
    rw [hL]
    let g : Nat → Oper := fun i => ops.getD i default
    have hos : ∀ (l : List Nat), (∀ i ∈ l, i < ops.size) → ∀ (j i : Nat) (o : Oper), l[j]? = some i → (l.map g)[j]? = some o → ops[i]? = some o := fun l hl j i o hj ho => by
      rw [List.getElem?_map, hj] at ho
      cases ho
      exact getD_oper (hl i (List.mem_of_getElem? hj))
    have hlt : ∀ i ∈ lp, i < ops.size := fun i hi => by have := (hlpm i).1 hi; omega
    have hrun : ∀ s : Env, (lp.map g).foldlM (fun env o => qstep C rec pc N ops h o env) s = (ops.toList.take m).foldlM (fun env o => qstep C rec pc N ops h o env) s := by
      intro s
      rw [take_map hle, List.foldlM_map, List.foldlM_map]
      refine sort_run (fun i env => qstep C rec pc N ops h (g i) env) m lp hlpn hlpm (fun l1 x l2 y e hy hlt2 s => ?_) s
      have hx := (hlpm x).1 (by rw [e]; simp)
      have h1 := (List.all_eq_true.1 ((List.all_eq_true.1 hdo) x (List.mem_range.2 hx))) y (List.mem_range.2 hlt2)
      have h2 : ¬ ((masks ops).getD x 0).testBit y = true := fun hb => by
        have := (p4 l1 x (l2 ++ List.range' m (ops.size - m)) (by rw [hL, e]; simp) y hb).resolve_left (by simp)
        rw [e, List.nodup_append] at hlpn
        exact hlpn.2.2 y this y (by simp [hy]) rfl
      have h3 : (g y).apart ops (g x) = true := by
        rw [getD_oper (show y < ops.size by omega), getD_oper (show x < ops.size by omega)] at h1
        simp only [Bool.or_eq_true] at h1
        exact h1.resolve_left h2
      exact (qstep_comm C rec pc N ops h3 s).symm
    have hk2 : aopsK C rec pc N true ops (lp.map g) env h (fun env' h' => aopsK C rec pc N false ops (ops.toList.drop m) env' h' K) = some r := by
      rw [aops_quiet] at hk1 ⊢
      rw [hrun]
      exact hk1
    refine aops_ok hrec hpc ops Q n ro (List.range' m (ops.size - m)) (lp.map g) lp (by simp) (hos lp hlt) hk2 (rel_drew hr) fun env1 h1 κ1 a1 w1 k1 k2 k3 k4 k5 k6 => ?_
    have hx0 := drew_ext hr.heap
    have := aops_ok hrec hpc ops Q n ro [] (ops.toList.drop m) (List.range' m (ops.size - m)) (by simp) (fun j i o hj ho => by
      have hjl : j < ops.size - m := by simpa using lt_of_get hj
      rw [List.getElem?_range' hjl] at hj
      cases hj
      rw [List.getElem?_drop] at ho
      simpa using ho) k1 k2 (fun env2 h2 κ2 a2 w2 j1 j2 j3 j4 j5 j6 => by
        refine hn env2 h2 κ2 a2 w2 j1 j2 ((hx0.trans k3).trans j3) (fun i hni => ?_) (j5.trans k5) (fun e => by cases e)
        have hsub1 : i ∉ (ops.toList.drop m).filterMap (·.dst) := fun hm => hni (by
          rw [List.mem_filterMap] at hm ⊢
          obtain ⟨o, ho, hd⟩ := hm
          exact ⟨o, List.mem_of_mem_drop ho, hd⟩)
        have hsub2 : i ∉ (lp.map g).filterMap (·.dst) := fun hm => hni (by
          rw [List.mem_filterMap] at hm ⊢
          obtain ⟨o, ho, hd⟩ := hm
          obtain ⟨x, hx, rfl⟩ := List.mem_map.1 ho
          refine ⟨g x, ?_, hd⟩
          have := getD_oper (hlt x hx)
          exact List.mem_of_getElem? (i := x) (by rw [Array.getElem?_toList]; exact this))
        exact (j4 i hsub1).trans (k4 i hsub2))
    simpa using this

end Ab
