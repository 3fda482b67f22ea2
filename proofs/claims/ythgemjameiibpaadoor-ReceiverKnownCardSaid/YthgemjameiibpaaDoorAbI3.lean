/- slices.Insert at the end, and where there is no room. -/
import Derived.Test.YthgemjameiibpaaDoorAbI1
import Derived.Shelf.Spec.SlicesInsertGrow
set_option linter.unusedVariables false
set_option linter.unusedSimpArgs false
namespace Go.Proofs
open Go.Shelf Go.RowKit Go.Lib
variable {P : Program} {ρ : Ren}

set_option maxHeartbeats 4000000 in
set_option maxRecDepth 100000 in
theorem ins_end {z : Nat} (L : InsLay P ρ z) (b off n c m vc : Nat) (va : Option Addr) (w w1 : World) (v1 : Value) (hm : 0 < m) (hnc : n ≤ c) (hc63 : n + m ≤ 9223372036854775807)
    (hrun : ∀ ty, (Builtin.append_ #[(ρ.t 24), (ρ.t 24)] ty #[.slice (some ⟨b, off, none⟩) n c, .slice va m vc]).run P w = .ok v1 w1) :
    Calls P (ρ.f 22) #[.slice (some ⟨b, off, none⟩) n c, .int .i64 n, .slice va m vc] w fun e w' => e = .returned v1 ∧ w' = w1 := by
  have t3 := L.t3; have a3 := L.a3; have z3 := L.z3; have v3 := L.v3; have t4 := L.t4; have a4 := L.a4; have z4 := L.z4; have v4 := L.v4; have t24 := L.t24; have a24 := L.a24; have z24 := L.z24; have v24 := L.v24
  have z9 := L.z9
  have u3 := run_underlying L.t3; have u4 := run_underlying L.t4; have u24 := run_underlying L.t24
  have mixed := L.mixed
  have hz1 : ¬ ((m : Int) = 0) := by omega
  obtain ⟨_, _, FG⟩ := L.f22
  go_enter FG, Body2.n22_ntmps ρ
  go_wp2_with (at_builtin; refine Lib.wpList_append_run _ rfl _ _ _ _ rfl _ _ rfl rfl _ _ (hrun _) ?_)
  all_goals (go_ret; exact ⟨rfl, rfl⟩)

set_option maxHeartbeats 4000000 in
set_option maxRecDepth 100000 in
theorem ins_nil {z : Nat} (L : InsLay P ρ z) (a0 : Option Addr) (m vc : Nat) (va : Option Addr) (w w1 : World) (v1 : Value) (hm : 0 < m)
    (hrun : ∀ ty, (Builtin.append_ #[(ρ.t 24), (ρ.t 24)] ty #[.slice a0 0 0, .slice va m vc]).run P w = .ok v1 w1) :
    Calls P (ρ.f 22) #[.slice a0 0 0, .int .i64 0, .slice va m vc] w fun e w' => e = .returned v1 ∧ w' = w1 := by
  have t3 := L.t3; have a3 := L.a3; have z3 := L.z3; have v3 := L.v3; have t4 := L.t4; have a4 := L.a4; have z4 := L.z4; have v4 := L.v4; have t24 := L.t24; have a24 := L.a24; have z24 := L.z24; have v24 := L.v24
  have z9 := L.z9
  have u3 := run_underlying L.t3; have u4 := run_underlying L.t4; have u24 := run_underlying L.t24
  have mixed := L.mixed
  have hz1 : ¬ ((m : Int) = 0) := by omega
  obtain ⟨_, _, FG⟩ := L.f22
  go_enter FG, Body2.n22_ntmps ρ
  cases a0 with
  | none =>
    go_wp2_with (at_builtin; refine Lib.wpList_append_run _ rfl _ _ _ _ rfl _ _ rfl rfl _ _ (hrun _) ?_)
    go_ret
    exact ⟨rfl, rfl⟩
  | some a =>
    obtain ⟨ab, ao, asp⟩ := a
    go_wp2_with (at_builtin; refine Lib.wpList_append_run _ rfl _ _ _ _ rfl _ _ rfl rfl _ _ (hrun _) ?_)
    all_goals (go_ret; exact ⟨rfl, rfl⟩)

set_option maxHeartbeats 4000000 in
set_option maxRecDepth 100000 in
theorem ins_grow {z : Nat} (L : InsLay P ρ z) (b off n c i vb voff m vc : Nat) (cs vs : List Value) (w : World) (hi : i < n) (hm : 0 < m) (hnc : n ≤ c) (hroom : c < n + m) (hbig : (n + m) * 65536 ≤ 140737488355328)
    (hcl : cs.length = n * z) (hvl : vs.length = m * z)
    (hcs : ∀ j v, cs[j]? = some v → w.cell? ⟨b, off + j, none⟩ = some v)
    (hvs : ∀ j v, vs[j]? = some v → w.cell? ⟨vb, voff + j, none⟩ = some v) (h1c : ∀ v ∈ cs, v.oneCell' = true) (h1v : ∀ v ∈ vs, v.oneCell' = true) :
    ∃ (ROW : Array Value) (G : Nat), n + m ≤ G ∧ ROW.size = G * z ∧ (∀ j, j < i * z → ROW[j]? = cs[j]?) ∧
    Calls P (ρ.f 22) #[.slice (some ⟨b, off, none⟩) n c, .int .i64 i, .slice (some ⟨vb, voff, none⟩) m vc] w fun e w' =>
      e = .returned (.slice (some ⟨w.heap.size, 0, none⟩) (n + m) G) ∧
      w' = (((w.alloc (.cells ROW (ρ.t 9))).drew.setCells w.heap.size (i * z) vs).drew).setCells w.heap.size ((i + m) * z) (cs.drop (i * z)) := by
  have t3 := L.t3; have a3 := L.a3; have z3 := L.z3; have v3 := L.v3; have t4 := L.t4; have a4 := L.a4; have z4 := L.z4; have v4 := L.v4; have t24 := L.t24; have a24 := L.a24; have z24 := L.z24; have v24 := L.v24
  have z9 := L.z9
  have u3 := run_underlying L.t3; have u4 := run_underlying L.t4; have u24 := run_underlying L.t24
  have mixed := L.mixed
  obtain ⟨i0, zv, hi0, hz0, hzs, hzz, hzb⟩ := L.i9
  have hpos := L.pos
  have hz1 : ¬ ((m : Int) = 0) := by omega
  have hz2 : ¬ ((i : Int) = (n : Int)) := by omega
  have hz3 : (c : Int) < (n : Int) + (m : Int) := by omega
  have hnz : i * z < n * z := Nat.mul_lt_mul_of_pos_right hi hpos
  have hmz : 0 < m * z := Nat.mul_pos hm hpos
  have hbw : b < w.heap.size := block_lt_of_cell (hcs 0 _ (List.getElem?_eq_getElem (by omega)))
  have hvw : vb < w.heap.size := block_lt_of_cell (hvs 0 _ (List.getElem?_eq_getElem (by omega)))
  have hkk : (n : Int) + (m : Int) - (i : Int) = ((n + m - i : Nat) : Int) := by omega
  have hik : i + (n + m - i) = n + m := by omega
  have hold : (Builtin.firstCells i0.size i (.slice (some ⟨b, off, none⟩) i c)).run P w.drew = .ok (cs.take (i * z)).toArray w.drew := by
    rw [hzs]
    exact run_firstCells_some w.drew z i ⟨b, off, none⟩ i c (cs.take (i * z)) (by rw [List.length_take]; omega) (fun j v hj => by
      rw [Addr.add_lit]
      rw [List.getElem?_take] at hj
      split at hj
      · exact hcs j v hj
      · cases hj)
  have hb1 : (n + m) * i0.bytes ≤ 140737488355328 := Nat.le_trans (Nat.mul_le_mul_left _ hzb) hbig
  have hb2 : (n + m - i) * i0.bytes ≤ 281474976710656 := Nat.le_trans (Nat.mul_le_mul_right _ (Nat.sub_le _ _)) (by omega)
  have hrz : ∀ ty, (Builtin.append_ #[(ρ.t 24), (ρ.t 3)] ty #[.slice (some ⟨b, off, none⟩) i c, .int .i64 ((n : Int) + (m : Int) - (i : Int))]).run P w =
      .ok (.slice (some ⟨w.heap.size, 0, none⟩) (n + m) (grownCap w (n + m) c (ρ.t 9))) (w.drew.alloc (.cells ((cs.take (i * z)).toArray ++ Builtin.zeroCells zv.cells (n + m - i) ++ Builtin.zeroCells zv.cells (grownCap w (n + m) c (ρ.t 9) - (n + m))) (ρ.t 9))) := fun ty => by
    have h := Lib.run_append_grow_zeros w (ρ.t 24) (ρ.t 3) ty (ρ.t 9) i0 _ .i64 .i64 L.t24 L.t3 hi0 hz0 (some ⟨b, off, none⟩) i c (cs.take (i * z)) hold (n + m - i) (by omega) (by omega) (by omega) (by omega) hb2 (by rw [hik]; exact growslice_fits hroom hb1)
    rw [hik] at h
    rw [hkk]
    exact h
  have hzc : ∀ k, (Builtin.zeroCells zv.cells k).size = k * z := fun k => by simp [Builtin.zeroCells, hzz]
  obtain ⟨G, hG⟩ : ∃ G, G = grownCap w (n + m) c (ρ.t 9) := ⟨_, rfl⟩
  obtain ⟨ROW, hROW⟩ : ∃ ROW : Array Value, ROW = (cs.take (i * z)).toArray ++ Builtin.zeroCells zv.cells (n + m - i) ++ Builtin.zeroCells zv.cells (G - (n + m)) := ⟨_, rfl⟩
  rw [← hG] at hrz
  rw [← hROW] at hrz
  have hGn : n + m ≤ G := by rw [hG]; exact grownCap_ge w _ _ _
  have hRs : ROW.size = G * z := by
    rw [hROW, Array.size_append, Array.size_append, hzc, hzc, List.size_toArray, List.length_take, hcl, Nat.min_eq_left (Nat.le_of_lt hnz), ← Nat.add_mul, ← Nat.add_mul]
    congr 1
    omega
  have hRl : (n + m) * z ≤ ROW.size := by rw [hRs]; exact Nat.mul_le_mul_right _ hGn
  refine ⟨ROW, G, hGn, hRs, fun j hj => ?_, ?_⟩
  · have h8 : j < (cs.take (i * z)).length := by rw [List.length_take]; omega
    rw [hROW, Array.append_assoc, Array.getElem?_append, if_pos (by simpa using h8)]
    simp [List.getElem?_take, hj]
  obtain ⟨W1, hW1⟩ : ∃ W1, W1 = w.drew.alloc (.cells ROW (ρ.t 9)) := ⟨_, rfl⟩
  rw [← hW1] at hrz
  have hN : ∀ j, j < (n + m) * z → (W1.cell? ⟨w.heap.size, j, none⟩).isSome = true := fun j hj => by
    rw [hW1, World.cell?_alloc_at (w := w.drew) ROW _ w.heap.size j rfl, Array.getElem?_eq_getElem (by omega)]; rfl
  have hNf : ∀ j, W1.frozen? ⟨w.heap.size, j, none⟩ = false := fun j => by rw [hW1]; exact World.frozen?_alloc_at (w := w.drew) ROW _ w.heap.size j rfl
  have hOb : ∀ j v, w.cell? ⟨b, j, none⟩ = some v → W1.cell? ⟨b, j, none⟩ = some v := fun j v h => by rw [hW1, World.cell?_alloc_past (w := w.drew) _ b j hbw]; exact h
  have hOv : ∀ j v, w.cell? ⟨vb, j, none⟩ = some v → W1.cell? ⟨vb, j, none⟩ = some v := fun j v h => by rw [hW1, World.cell?_alloc_past (w := w.drew) _ vb j hvw]; exact h
  have hmul1 : (i + m) * z + (n - i) * z = (n + m) * z := by rw [← Nat.add_mul]; congr 1; omega
  have hmul2 : i * z + m * z ≤ (n + m) * z := by rw [← Nat.add_mul]; exact Nat.mul_le_mul_right _ (by omega)
  have hcpA : ∀ (W : World), (∀ x, W.cell? x = W1.cell? x) → (∀ x, W.frozen? x = W1.frozen? x) → ∀ ty dc, (Builtin.copy_ #[(ρ.t 24), (ρ.t 24)] ty #[.slice (some ⟨w.heap.size, i * z, none⟩) (n + m - i) dc, .slice (some ⟨vb, voff, none⟩) m vc]).run P W = .ok (goInt m) (W.setCells w.heap.size (i * z) vs) := fun W hWc hWf ty dc =>
    run_copy_cellsZ W _ _ ty (ρ.t 9) z w.heap.size (i * z) (n + m - i) dc ⟨vb, voff, none⟩ m vc m vs L.t24 L.z9 (by simp only [Nat.min_def]; split <;> omega) hvl
      (fun j v hj => by rw [Addr.add_lit, hWc]; exact hOv _ v (hvs j v hj))
      (fun j hj => by rw [hWc]; exact hN _ (by omega)) (fun j hj => by rw [hWf]; exact hNf _) h1v
  have hG63 : G ≤ 9223372036854775807 := by
    have := grownCap_le_maxLen w (n + m) c (ρ.t 9) (by unfold maxLen; omega)
    rw [← hG] at this
    unfold maxLen at this
    omega
  have hGi : ¬ (G = i) := by omega
  have hGim : ¬ (G = i + m) := by omega
  have hci : ¬ (c = i) := by omega
  have hbN : b ≠ w.heap.size := by omega
  have hdl : (cs.drop (i * z)).length = (n - i) * z := by rw [List.length_drop, hcl, Nat.sub_mul]
  have hcpB : ∀ (W : World), (∀ x, W.cell? x = (W1.setCells w.heap.size (i * z) vs).cell? x) → (∀ x, W.frozen? x = (W1.setCells w.heap.size (i * z) vs).frozen? x) → ∀ ty dc sc, (Builtin.copy_ #[(ρ.t 24), (ρ.t 24)] ty #[.slice (some ⟨w.heap.size, (i + m) * z, none⟩) (n + m - (i + m)) dc, .slice (some ⟨b, off + i * z, none⟩) (n - i) sc]).run P W = .ok (goInt ((n - i : Nat) : Int)) (W.setCells w.heap.size ((i + m) * z) (cs.drop (i * z))) := fun W hWc hWf ty dc sc =>
    run_copy_cellsZ W _ _ ty (ρ.t 9) z w.heap.size ((i + m) * z) (n + m - (i + m)) dc ⟨b, off + i * z, none⟩ (n - i) sc (n - i) (cs.drop (i * z)) L.t24 L.z9 (by simp only [Nat.min_def]; split <;> omega) hdl
      (fun j v hj => by
        rw [Addr.add_lit, hWc, World.cell?_setCells_out _ _ _ _ _ (fun h _ => absurd h hbN), Nat.add_assoc]
        exact hOb _ v (hcs (i * z + j) v (by rwa [List.getElem?_drop] at hj)))
      (fun j hj => by rw [hWc]; exact isSome_setCells _ _ _ _ (fun t ht => hN _ (by omega)) _ (hN _ (by omega)))
      (fun j hj => by rw [hWf, World.frozen?_setCells]; exact hNf _) (fun v hv => h1c v (List.mem_of_mem_drop hv))
  subst hW1
  have hE1 : ∀ x, ((w.alloc (.cells ROW (ρ.t 9))).drew).cell? x = (w.drew.alloc (.cells ROW (ρ.t 9))).cell? x := fun x => rfl
  have hE2 : ∀ x, ((w.alloc (.cells ROW (ρ.t 9))).drew).frozen? x = (w.drew.alloc (.cells ROW (ρ.t 9))).frozen? x := fun x => rfl
  have hF1 : ∀ x, (((w.alloc (.cells ROW (ρ.t 9))).drew.setCells w.heap.size (i * z) vs).drew).cell? x = ((w.drew.alloc (.cells ROW (ρ.t 9))).setCells w.heap.size (i * z) vs).cell? x := fun x => rfl
  have hF2 : ∀ x, (((w.alloc (.cells ROW (ρ.t 9))).drew.setCells w.heap.size (i * z) vs).drew).frozen? x = ((w.drew.alloc (.cells ROW (ρ.t 9))).setCells w.heap.size (i * z) vs).frozen? x := fun x => rfl
  have hw1 : IntKind.i64.wrap ((i : Int) + (m : Int)) = (i : Int) + (m : Int) := by rw [IntKind.wrap_i64]; omega
  have hb1' : (0 : Int) ≤ (i : Int) + (m : Int) := by omega
  have hin : i ≤ n := by omega
  have htn : ((i : Int) + (m : Int)).toNat = i + m := by omega
  have hb3 : (i : Int) ≤ (n : Int) := by omega
  clear hkk hik hold hROW hG hRl hmul1 hmul2 hdl hRs hzc hb1 hb2 hnz hmz hN hNf hOb hOv
  obtain ⟨_, _, FG⟩ := L.f22
  go_enter FG, Body2.n22_ntmps ρ
  go_wp2_with (first
    | (at_builtin; refine Lib.wpList_append_run _ rfl _ _ _ _ rfl _ _ rfl rfl _ _ (hrz _) ?_)
    | (at_builtin; refine wpList_copy_runI _ rfl _ _ (ρ.t 24) (ρ.t 24) rfl _ _ rfl rfl (hcpA _ hE1 hE2 _ _) ?_)
    | (at_builtin; refine wpList_copy_runI _ rfl _ _ (ρ.t 24) (ρ.t 24) rfl _ _ rfl rfl (hcpB _ (fun _ => rfl) (fun _ => rfl) _ _ _) ?_))
  go_region_law_o (refine step_copy_runI rfl _ _ (ρ.t 24) (ρ.t 24) rfl (.slice (some ⟨w.heap.size, (i + m) * z, none⟩) (n + m - (i + m)) (G - (i + m))) (.slice (some ⟨b, off + i * z, none⟩) (n - i) (c - i)) (by simp [Act.eval, Act.put]) (by simp [Act.eval, Act.put]) (hcpB _ hF1 hF2 (ρ.t 3) (G - (i + m)) (c - i)) ?_)
  go_wp2
  go_ret
  exact ⟨rfl, rfl⟩
end Go.Proofs
