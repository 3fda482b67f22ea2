/- Soundness of stores and appends. -/
import Derived.Test.YthgemjameiibpaaDoorAbD
import Derived.Laws.AppendOwn
namespace Ab
open Go

variable {R : Type} {P : Program} {B : Nat → Prop} {κ : KMap} {h : Heap} {w : World}

def segArr (cells : Array Value) (o : Nat) (vals : List Value) : Array Value := (cells.toList.take o ++ vals ++ cells.toList.drop (o + vals.length)).toArray

theorem segArr_size (cells : Array Value) (o : Nat) (vals : List Value) (hle : o + vals.length ≤ cells.size) : (segArr cells o vals).size = cells.size := by
  simp [segArr]; omega

theorem getD_list {α : Type} (l : List α) (j : Nat) (d : α) : l.toArray.getD j d = l.getD j d := by
  simp [Array.getD, List.getD]
  split <;> simp_all

theorem segArr_get (cells : Array Value) (o : Nat) (vals : List Value) (hle : o + vals.length ≤ cells.size) (j : Nat) :
    (segArr cells o vals).getD j undef = if o ≤ j ∧ j < o + vals.length then vals.getD (j - o) undef else cells.getD j undef := by
  unfold segArr
  rw [getD_list]
  have hl : (cells.toList.take o).length = o := by simp; omega
  simp only [List.getD]
  by_cases h1 : j < o
  · rw [List.append_assoc, List.getElem?_append_left (by omega), List.getElem?_take_of_lt h1, if_neg (by omega)]
    have : j < cells.size := by omega
    simp [Array.getD, this]
  · by_cases h2 : j < o + vals.length
    · rw [List.getElem?_append_left (by simp; omega), List.getElem?_append_right (by omega), hl, if_pos ⟨by omega, h2⟩]
    · rw [List.getElem?_append_right (by simp; omega), if_neg (by omega), List.getElem?_drop]
      have : (cells.toList.take o ++ vals).length = o + vals.length := by simp; omega
      rw [this, show o + vals.length + (j - (o + vals.length)) = j from by omega]
      by_cases h3 : j < cells.size
      · simp [Array.getD, h3]
      · simp [Array.getD, h3]

theorem run_storeVar {t : TypeId} {n : Nat} (hn : szOf P t = some n) {b o : Nat} {cells : Array Value} {elem : TypeId} (hb : w.heap[b]? = some (.cells cells elem (0, 0))) {val : Value} (hv : val.cells.size = n)
    (hle : o + n ≤ cells.size) (h1 : ∀ v ∈ val.cells.toList, v.oneCell' = true) :
    (Instr.storeAt t (.pointer (some ⟨b, o, none⟩)) val).run P w = .ok () (w.setRow b (segArr cells o val.cells.toList)) := by
  have hst := run_storeCells_at P b o elem val.cells.toList 0 cells w hb (by simp [hv]; omega) h1
  simp only [Instr.storeAt, Instr.sureAddr, storeVar, Sem.run_bind, Sem.run_pure, Result.andThen_ok, run_szOf hn, Sem.run_ite]
  rw [if_neg (by simp [hv])]
  simp only [hst, Nat.add_zero]
  rfl

theorem setRow_other (w : World) (g : Nat) (cs : Array Value) {b : Nat} (hb : b ≠ g) : (w.setRow g cs).heap[b]? = w.heap[b]? := by
  simp [World.setRow, Array.getElem?_modify, Ne.symm hb]
theorem setRow_size (w : World) (g : Nat) (cs : Array Value) : (w.setRow g cs).heap.size = w.heap.size := by
  simp [World.setRow]

theorem all_leaf_one {vs : List AV} {vals : List Value} (hl : vs.all AV.leaf = true) (hlen : vals.length = vs.length) (hv : ∀ (j : Nat) (x : AV) (v : Value), vs[j]? = some x → vals[j]? = some v → VRel B κ h w x v) :
    ∀ v ∈ vals, v.oneCell' = true := by
  intro v hm
  obtain ⟨j, hj, rfl⟩ := List.getElem_of_mem hm
  have hj' : j < vs.length := by omega
  refine leaf_one ?_ (hv j vs[j] vals[j] (List.getElem?_eq_getElem hj') (List.getElem?_eq_getElem hj))
  exact (List.all_eq_true.1 hl) _ (List.getElem_mem hj')

theorem cellsRel_list {cs : List AV} {arr : Array Value} (hc : CellsRel B κ h w cs arr) (j : Nat) (x : AV) (v : Value) (hx : cs[j]? = some x) (hv : arr.toList[j]? = some v) : VRel B κ h w x v := by
  have h1 := hc.2 j x hx
  rwa [getD_arr arr.toList j undef hv] at h1

theorem astore_ok {t : TypeId} {a v : AV} {K : Heap → Option R} {r : R} (hr : astore P t h a v K = some r) (hh : HRel B κ h w) {va vv : Value} (ha : VRel B κ h w a va) (hv : VRel B κ h w v vv) :
    ∃ h' κ' w', K h' = some r ∧ (Instr.storeAt t va vv).run P w = .ok () w' ∧ HRel B κ' h' w' ∧ Ext κ h w κ' h' w' := by
  unfold astore at hr
  try simp only [cnd_eq] at hr
  split at hr
  · rename_i vs n hvs hn
    obtain ⟨⟨hlen, hleaf⟩, hr1⟩ := ite_some hr
    clear hr
    have hc := cells_ok hvs hv
    have hone := all_leaf_one hleaf (by simp [hc.1]) (cellsRel_list hc)
    split at hr1
    · rename_i i off
      split at hr1
      · rename_i cs hi
        obtain ⟨hle, hr2⟩ := ite_some hr1
        obtain ⟨vs', g, κ1, hK, hh1, x1, hl', hv', _⟩ := rowify_ok (arr := vv.cells.toList) hr2 hh (by simp [hc.1]) (cellsRel_list hc)
        have hi1 : (h ++ g)[i]? = some (.box cs) := by rw [List.getElem?_append_left (List.getElem?_eq_some_iff.1 hi).1]; exact hi
        cases ha with
        | ptr _ _ b base hk _ =>
          obtain ⟨o', ho', _⟩ := x1.obj i _ hi
          have hk1 : κ1[i]? = some (some (b, base)) := (x1.kap i _ _ hi hi1 rfl).trans hk
          obtain ⟨hb0, cells, elem, hcell, hs, hcv⟩ := hh1.obj i _ _ hi1 hk1
          subst hb0
          have hvl : vv.cells.toList.length = n := by simp [hc.1, hlen]
          have hrun := run_storeVar (P := P) (o := 0 + off) hn hcell (val := vv) (by simpa using hvl) (by omega) hone
          have hsz := segArr_size cells (0 + off) vv.cells.toList (by omega)
          have hnew := setRow_heap w b cells (segArr cells (0 + off) vv.cells.toList) elem _ hcell
          obtain ⟨s1, s2⟩ := setAt_get cs vs' off (by omega)
          have x2 : Ext κ1 (h ++ g) w (κ1.set i (some (b, 0))) ((h ++ g).set i (.box (setAt cs off vs'))) (w.setRow b (segArr cells (0 + off) vv.cells.toList)) := by
            refine upd_ext (o' := .box (setAt cs off vs')) (k' := some (b, 0)) (w' := w.setRow b (segArr cells (0 + off) vv.cells.toList)) hh1 hi1 rfl ⟨rfl, Nat.le_refl _, (fun _ => ⟨rfl, by simp [AObj.len, s1]⟩), (fun e => by cases e), (fun _ => by simp [AObj.len, s1]), rfl⟩ hk1 rfl rfl rfl (by rw [setRow_size]; exact Nat.le_refl _) (fun b' _ hb' => setRow_other w b _ fun e => hb' 0 (by rw [e])) (fun b' base' e => by injection e with e; injection e with e1 e2; subst e1; exact .inl ⟨0, rfl⟩) (fun _ => ⟨rfl, fun b' base' e cells' elem' fr' hc' => ?_⟩)
            cases e
            rw [hnew] at hc'
            cases hc'
            exact ⟨cells, hcell, hsz.symm⟩
          refine ⟨_, _, _, hK, hrun, upd_hrel hh1 hi1 hk1 (fun b' _ hb' => setRow_other w b _ fun e => hb' 0 (by rw [e])) (fun b' base' e => by injection e with e; injection e with e1 e2; subst e1; exact ⟨.inl ⟨0, rfl⟩, by rw [setRow_size]; exact hh1.lt i b 0 hk1⟩) x2 ?_, x1.trans x2⟩
          refine ⟨rfl, _, elem, hnew, by rw [hsz, s1, hs], fun j x hx => ?_⟩
          rw [s2 j] at hx
          rw [segArr_get cells _ _ (by omega)]
          by_cases hj : off ≤ j ∧ j < off + vs'.length
          · rw [if_pos hj] at hx
            rw [if_pos ⟨by omega, by omega⟩]
            have hjl : j - off < vv.cells.toList.length := by omega
            refine (hv' (j - off) x _ hx ?_).ext x2
            rw [Nat.zero_add]
            exact getD_of_lt _ _ _ hjl
          · rw [if_neg hj] at hx
            rw [if_neg (by omega)]
            exact (hcv j x hx).ext x2
      · cases hr1
    · rename_i i ver k off
      split at hr1
      · rename_i ver' size es hi
        obtain ⟨⟨rfl, hle⟩, hr2⟩ := ite_some hr1
        clear hr1
        obtain ⟨e, he, hr3⟩ := bind_some hr2
        obtain ⟨ys, hK, hyl, _, hyt⟩ := convs_ok (vs := vv.cells.toList) hr3 hh (by simp [hc.1]) (cellsRel_list hc)
        cases ha with
        | rptr _ _ _ _ _ _ hex hv2 =>
          obtain ⟨b, base, hk, rfl, _, _⟩ := hv2 _ hi rfl
          obtain ⟨hz0, cells, elem, hcell, hs, hls, hcv⟩ := hh.obj i _ _ hi hk
          have hkl : k < es.length := (List.getElem?_eq_some_iff.1 he).1
          have hmul : k * size + size ≤ es.length * size := by
            rw [← Nat.succ_mul]; exact Nat.mul_le_mul_right _ hkl
          have hvl : vv.cells.toList.length = n := by simp [hc.1, hlen]
          have hel := hls k e he
          simp only [AObj.size]
          have hrun := run_storeVar (P := P) (o := base + (k * size + off)) hn hcell (val := vv) (by simpa using hvl) (by omega) hone
          have hsz := segArr_size cells (base + (k * size + off)) vv.cells.toList (by omega)
          have hnew := setRow_heap w b cells (segArr cells (base + (k * size + off)) vv.cells.toList) elem _ hcell
          have hset : (κ.set i (some (b, base))) = κ := by
            apply List.ext_getElem?
            intro j
            by_cases hij : j = i
            · rw [hij, set_new hk, hk]
            · rw [set_old hij]
          have x2 : Ext κ h w κ (h.set i (.row false ver' size (es.set k (e.take off ++ (ys ++ e.drop (off + n)))))) (w.setRow b (segArr cells (base + (k * size + off)) vv.cells.toList)) := by
            have x2' : Ext κ h w (κ.set i (some (b, base))) (h.set i (.row false ver' size (es.set k (e.take off ++ (ys ++ e.drop (off + n)))))) (w.setRow b (segArr cells (base + (k * size + off)) vv.cells.toList)) := by
              refine upd_ext (o' := .row false ver' size (es.set k (e.take off ++ (ys ++ e.drop (off + n))))) (k' := some (b, base)) (w' := w.setRow b (segArr cells (base + (k * size + off)) vv.cells.toList)) hh hi rfl ⟨rfl, Nat.le_refl _, (fun _ => ⟨rfl, by simp [AObj.len]⟩), (fun e => by cases e), (fun e => by cases e), rfl⟩ hk rfl rfl rfl (by rw [setRow_size]; exact Nat.le_refl _) (fun b' _ hb' => setRow_other w b _ fun e => hb' base (by rw [e])) (fun b' base' e => by injection e with e; injection e with e1 e2; subst e1; exact .inl ⟨base, rfl⟩) (fun _ => ⟨rfl, fun b' base' e cells' elem' fr' hc' => ?_⟩)
              cases e
              rw [hnew] at hc'
              cases hc'
              exact ⟨cells, hcell, hsz.symm⟩
            rw [hset] at x2'
            exact x2'
          have hh2 : HRel B (κ.set i (some (b, base))) (h.set i (.row false ver' size (es.set k (e.take off ++ (ys ++ e.drop (off + n)))))) (w.setRow b (segArr cells (base + (k * size + off)) vv.cells.toList)) := by
            refine upd_hrel hh hi hk (fun b' _ hb' => setRow_other w b _ fun e => hb' base (by rw [e])) (fun b' base' e => by injection e with e; injection e with e1 e2; subst e1; exact ⟨.inl ⟨base, rfl⟩, by rw [setRow_size]; exact hh.lt i b base hk⟩) (by rw [hset]; exact x2) ?_
            rw [hset]
            have hnl : (e.take off ++ (ys ++ e.drop (off + n))).length = size := by simp; omega
            refine ⟨hz0, _, elem, hnew, by rw [hsz]; simpa using hs, fun j e' he' => ?_, fun j e' c x he' hx => ?_⟩
            · rcases set_get he' with ⟨rfl, _, rfl⟩ | ⟨_, he'⟩
              · exact hnl
              · exact hls j e' he'
            · rw [segArr_get cells _ _ (by omega), hvl]
              rcases set_get he' with ⟨rfl, _, rfl⟩ | ⟨hne, he'⟩
              · have hcl : c < size := by rw [← hnl]; exact (List.getElem?_eq_some_iff.1 hx).1
                have hyn : ys.length = n := by omega
                by_cases h1 : c < off
                · rw [List.getElem?_append_left (by simp; omega), List.getElem?_take_of_lt h1] at hx
                  rw [if_neg (by omega)]
                  exact (hcv _ e c x he hx).ext x2
                · rw [List.getElem?_append_right (by simp; omega)] at hx
                  have hlt : (e.take off).length = off := by simp; omega
                  rw [hlt] at hx
                  by_cases h2 : c < off + n
                  · rw [List.getElem?_append_left (by omega)] at hx
                    rw [if_pos ⟨by omega, by omega⟩, show base + (j * size + c) - (base + (j * size + off)) = c - off from by omega]
                    have h3 := hyt (c - off) x (vv.cells.toList.getD (c - off) undef) hx (getD_of_lt _ _ _ (by omega))
                    exact TRel.ext x2 (h3.less fun b hb => hb.imp id fun e => ⟨rfl, e⟩)
                  · rw [List.getElem?_append_right (by omega), List.getElem?_drop, hyn, show off + n + (c - off - n) = c from by omega] at hx
                    rw [if_neg (by omega)]
                    exact (hcv _ e c x he hx).ext x2
              · have hcl : c < size := by rw [← hls j e' he']; exact (List.getElem?_eq_some_iff.1 hx).1
                rw [if_neg ?_]
                · exact (hcv j e' c x he' hx).ext x2
                · rintro ⟨h1, h2⟩
                  rcases Nat.lt_or_gt_of_ne hne with hlt | hgt
                  · have := Nat.mul_le_mul_right size (show j + 1 ≤ k from hlt)
                    rw [Nat.succ_mul] at this
                    omega
                  · have := Nat.mul_le_mul_right size (show k + 1 ≤ j from hgt)
                    rw [Nat.succ_mul] at this
                    omega
          rw [hset] at hh2
          exact ⟨_, _, _, hK, hrun, hh2, x2⟩
      · cases hr1
    · cases hr1
  · cases hr

/-! ### append -/
theorem appSz_ok {t : TypeId} {s : Nat} (hs : appSz P t = some s) : ∃ e i z, P.underlying t = some (.slice e) ∧ P.info? e = some i ∧ i.zero = some z ∧ i.size = s ∧ s ≠ 0 ∧ z.cells.size = s ∧ i.bytes ≤ 65536 := by
  unfold appSz at hs
  split at hs
  · rename_i e hu
    split at hs
    · rename_i i hi
      split at hs
      · rename_i z hz
        obtain ⟨⟨h1, h2, h3⟩, h4⟩ := ite_some hs
        cases h4
        exact ⟨e, i, z, hu, hi, hz, rfl, h1, h2, h3⟩
      · cases hs
    · cases hs
  · cases hs

/-- The cells of the elements of a slice. -/
theorem news_of {A : Nat → Prop} {z : Nat} (hz : z ≠ 0) {new : List (List Tree)} {v : Value} (hs : SlRel w A z new v) (hn : new ≠ []) :
    ∃ (b o cap : Nat) (news : List Value), v = .slice (some ⟨b, o, none⟩) new.length cap ∧ news.length = new.length * z ∧ (∀ j u, news[j]? = some u → w.cell? ((⟨b, o, none⟩ : Addr).add j) = some u) ∧
      (∀ u ∈ news, u.oneCell' = true) ∧ ∀ (j : Nat) (e : List Tree) (c : Nat) (x : Tree), new[j]? = some e → e[c]? = some x → TRel w A x (news.getD (j * z + c) undef) := by
  obtain ⟨hl, a, cap, rfl, _, hc⟩ := hs
  rcases hc with hc | ⟨b, o, rfl, _, hc⟩
  · exact (hn hc).elim
  · have key : ∀ q, q < new.length * z → ∃ u, w.cell? ⟨b, o + q, none⟩ = some u ∧ u.oneCell' = true := by
      intro q hq
      have h1 : q / z < new.length := Nat.div_lt_of_lt_mul (by rw [Nat.mul_comm]; exact hq)
      have he : new[q / z]? = some new[q / z] := List.getElem?_eq_getElem h1
      have hel := hl _ _ he
      have h2 : q % z < (new[q / z]).length := by rw [hel]; exact Nat.mod_lt _ (Nat.pos_of_ne_zero hz)
      obtain ⟨u, hu, ht⟩ := hc _ _ _ _ he (List.getElem?_eq_getElem h2)
      refine ⟨u, ?_, ht.one⟩
      rw [Nat.mul_comm, Nat.div_add_mod] at hu
      exact hu
    have hget : ∀ q, q < new.length * z → ((List.range (new.length * z)).map fun q => (w.cell? ⟨b, o + q, none⟩).getD undef)[q]? = some ((w.cell? ⟨b, o + q, none⟩).getD undef) := fun q hq => by
      simp [hq]
    refine ⟨b, o, cap, (List.range (new.length * z)).map fun q => (w.cell? ⟨b, o + q, none⟩).getD undef, rfl, by simp, fun j u hu => ?_, fun u hu => ?_, fun j e c x he hx => ?_⟩
    · have hj : j < new.length * z := by simpa using (List.getElem?_eq_some_iff.1 hu).1
      rw [hget j hj] at hu
      obtain ⟨u', hu', _⟩ := key j hj
      rw [hu'] at hu
      simp at hu
      subst hu
      rw [add_off]
      exact hu'
    · simp only [List.mem_map, List.mem_range] at hu
      obtain ⟨q, hq, rfl⟩ := hu
      obtain ⟨u', hu', h1⟩ := key q hq
      rw [hu']
      exact h1
    · have hj : j < new.length := (List.getElem?_eq_some_iff.1 he).1
      have hcl : c < z := by rw [← hl j e he]; exact (List.getElem?_eq_some_iff.1 hx).1
      have hq : j * z + c < new.length * z := by
        have := Nat.mul_le_mul_right z (show j + 1 ≤ new.length from hj)
        rw [Nat.succ_mul] at this
        omega
      obtain ⟨u, hu, ht⟩ := hc j e c x he hx
      have := hget _ hq
      simp only [List.getD, this, Option.getD_some, hu]
      exact ht

theorem run_append_nil' (base : Option Addr) (w : World) (t ty e : TypeId) (i : TypeInfo) (z : Value) (ht : P.underlying t = some (.slice e)) (hi : P.info? e = some i) (hz : i.zero = some z)
    (a : Addr) (n c : Nat) (news : List Value) (hl : news.length = n * i.size) (hnews : ∀ j v, news[j]? = some v → w.cell? (a.add j) = some v)
    (h0 : 0 < n) (h63 : (n : Int) ≤ 9223372036854775807) (h48 : n * i.bytes ≤ 281474976710656) :
    (Builtin.append_ #[t, t] ty #[.slice base 0 0, .slice (some a) n c]).run P w =
      .ok (.slice (some ⟨w.heap.size, 0, none⟩) n (grownCap w n 0 e)) (w.drew.alloc (.cells (news.toArray ++ Builtin.zeroCells z.cells (grownCap w n 0 e - n)) e)) := by
  cases base with
  | none => exact run_append_nil (P := P) w t ty e i z ht hi hz a n c news hl hnews h0 h63 h48
  | some a0 =>
    have hn : n ≠ 0 := by omega
    have h63' : ¬ (9223372036854775807 < (n : Int)) := by omega
    have h48' : ¬ (281474976710656 < Builtin.nextslicecap n 0 * i.bytes) := by rw [nextslicecap_zero h0]; omega
    have hf := run_firstCells_some (P := P) w.drew i.size n a n c news hl (by simpa using hnews)
    have hf0 := run_firstCells_some (P := P) w.drew i.size 0 a0 0 0 [] (by simp) (by simp)
    simp [Builtin.append_, run_underlying ht, Go.sizeOf, typeInfo, zeroValue, hi, hz, Builtin.lenOf, hn, h63', h48', Question.forced, hf0, hf, newRow, grownCap]

theorem run_append_none {t ty e : TypeId} {i : TypeInfo} (hu : P.underlying t = some (.slice e)) (hi : P.info? e = some i) (base : Option Addr) (sLen sCap : Nat) (a : Option Addr) (c : Nat) (hle : sLen ≤ sCap) :
    (Builtin.append_ #[t, t] ty #[.slice base sLen sCap, .slice a 0 c]).run P w = .ok (.slice base sLen sCap) w := by
  cases a with
  | none => cases base <;> simp [Builtin.append_, run_underlying hu, Go.sizeOf, typeInfo, hi, Builtin.lenOf, hle, Builtin.firstCells, storeCells]
  | some a => cases base <;> simp [Builtin.append_, run_underlying hu, Go.sizeOf, typeInfo, hi, Builtin.lenOf, hle, Builtin.firstCells, loadCells, loadCellsFrom, storeCells]

theorem run_append_room' {t ty e : TypeId} {i : TypeInfo} (ht : P.underlying t = some (.slice e)) (hi : P.info? e = some i)
    {g o sLen sCap : Nat} {cur : Array Value} {el : TypeId} (hg : w.heap[g]? = some (.cells cur el (0, 0)))
    {a : Addr} {m c : Nat} {news : List Value} (hl : news.length = m * i.size) (hnews : ∀ j u, news[j]? = some u → w.cell? (a.add j) = some u) (h1 : ∀ u ∈ news, u.oneCell' = true)
    (hroom : sLen + m ≤ sCap) (hfit : o + sLen * i.size + news.length ≤ cur.size) :
    (Builtin.append_ #[t, t] ty #[.slice (some ⟨g, o, none⟩) sLen sCap, .slice (some a) m c]).run P w =
      .ok (.slice (some ⟨g, o, none⟩) (sLen + m) sCap) (w.setRow g (segArr cur (o + sLen * i.size) news)) := by
  have hf := run_firstCells_some (P := P) w i.size m a m c news hl hnews
  have hst := run_storeCells_at P g (o + sLen * i.size) el news 0 cur w hg (by simpa using hfit) h1
  simp only [Nat.add_zero] at hst
  simp [Builtin.append_, run_underlying ht, Go.sizeOf, typeInfo, hi, Builtin.lenOf, hroom, hf, add_off, hst, segArr]

theorem row_value {κ' : KMap} {h' : Heap} {w' : World} {i ver z b base cap n : Nat} {L : List (List Tree)} {cells : Array Value} {el : TypeId} (hk : κ'[i]? = some (some (b, base))) (hi : h'[i]? = some (.row false ver z L))
    (hc : w'.heap[b]? = some (.cells cells el (0, 0))) (hcap : base + cap * z ≤ cells.size) (hn : L.length = n) (hle : n ≤ cap) : VRel B κ' h' w' (.sref i ver 0 n) (.slice (some ⟨b, base, none⟩) n cap) := by
  refine .sref _ _ _ _ _ rfl ⟨_, hi, Nat.le_refl _⟩ fun k o hk' ho' _ => ?_
  rw [hk] at hk'
  cases hk'
  rw [hi] at ho'
  cases ho'
  refine ⟨rfl, by simp only [AObj.len]; omega, cap, by simp, by simp only [AObj.len]; omega, fun cells' elem' fr' hc' => ?_⟩
  rw [hc] at hc'
  cases hc'
  simpa [AObj.size] using hcap

theorem row_value_none {κ' : KMap} {h' : Heap} {w' : World} {i ver z : Nat} {a0 : Option Addr} (hk : κ'[i]? = some none) (hi : h'[i]? = some (.row false ver z [])) : VRel B κ' h' w' (.sref i ver 0 0) (.slice a0 0 0) := by
  refine .sref _ _ _ _ _ rfl ⟨_, hi, Nat.le_refl _⟩ fun k o hk' ho' _ => ?_
  rw [hk] at hk'
  cases hk'
  rw [hi] at ho'
  cases ho'
  exact ⟨rfl, by simp [AObj.len], ⟨_, rfl⟩⟩

/-- The cells of a row, one after the other. -/
def RowCells (w : World) (A : Nat → Prop) (z : Nat) (L : List (List Tree)) (vals : Nat → Value) : Prop :=
  (∀ (j : Nat) (e : List Tree), L[j]? = some e → e.length = z) ∧ ∀ (j : Nat) (e : List Tree) (c : Nat) (x : Tree), L[j]? = some e → e[c]? = some x → TRel w A x (vals (j * z + c))

theorem rowCells_append {A : Nat → Prop} {z : Nat} {L M : List (List Tree)} {f g : Nat → Value} (hL : RowCells w A z L f) (hM : RowCells w A z M fun q => g (L.length * z + q)) (hfg : ∀ q, q < L.length * z → g q = f q) : RowCells w A z (L ++ M) g := by
  refine ⟨fun j e he => ?_, fun j e c x he hx => ?_⟩
  · rcases Nat.lt_or_ge j L.length with h1 | h1
    · rw [List.getElem?_append_left h1] at he; exact hL.1 j e he
    · rw [List.getElem?_append_right h1] at he; exact hM.1 _ e he
  · rcases Nat.lt_or_ge j L.length with h1 | h1
    · rw [List.getElem?_append_left h1] at he
      have hcl : c < z := by rw [← hL.1 j e he]; exact (List.getElem?_eq_some_iff.1 hx).1
      have := Nat.mul_le_mul_right z (show j + 1 ≤ L.length from h1)
      rw [Nat.succ_mul] at this
      rw [hfg _ (by omega)]
      exact hL.2 j e c x he hx
    · rw [List.getElem?_append_right h1] at he
      have := hM.2 _ e c x he hx
      rw [show j * z + c = L.length * z + ((j - L.length) * z + c) from by rw [← Nat.add_assoc, ← Nat.add_mul, Nat.add_sub_cancel' h1]]
      exact this

theorem rowCells_ext {κ' : KMap} {h' : Heap} {w' : World} (x : Ext κ h w κ' h' w') {z : Nat} {L : List (List Tree)} {f : Nat → Value} (hL : RowCells w (fun b => B b ∨ Ex κ h b) z L f) : RowCells w' (fun b => B b ∨ Ex κ' h' b) z L f :=
  ⟨hL.1, fun j e c y he hy => (hL.2 j e c y he hy).ext x⟩

theorem orel_row {κ' : KMap} {h' : Heap} {w' : World} {b base z ver : Nat} {L : List (List Tree)} {cells : Array Value} {el : TypeId} {fz : Bool} (hz : z ≠ 0) (hc : w'.heap[b]? = some (.cells cells el (0, 0))) (hs : base + L.length * z ≤ cells.size)
    (hL : RowCells w' (fun b => B b ∨ Ex κ' h' b) z L fun q => cells.getD (base + q) undef) : ORel B κ' h' w' (some (b, base)) (.row fz ver z L) :=
  ⟨hz, cells, el, hc, hs, hL.1, hL.2⟩

theorem grown_arr (olds news : List Value) (Z : Array Value) : olds.toArray ++ news.toArray ++ Z = (olds ++ (news ++ Z.toList)).toArray := by
  apply Array.ext'
  simp

theorem grown_old (olds news : List Value) (Z : Array Value) (q : Nat) (hq : q < olds.length) : (olds.toArray ++ news.toArray ++ Z).getD q undef = olds.getD q undef := by
  rw [grown_arr, getD_list]
  simp only [List.getD]
  rw [List.getElem?_append_left hq]
theorem grown_new (olds news : List Value) (Z : Array Value) (q : Nat) (hq : q < news.length) : (olds.toArray ++ news.toArray ++ Z).getD (olds.length + q) undef = news.getD q undef := by
  rw [grown_arr, getD_list]
  simp only [List.getD]
  rw [List.getElem?_append_right (by omega), Nat.add_sub_cancel_left, List.getElem?_append_left hq]

theorem drew_ext (hh : HRel B κ h w) : Ext κ h w κ h w.drew := ext_grow hh rfl rfl rfl (Nat.le_refl _) fun _ _ => rfl

theorem aappend_ok {t : TypeId} {s x : AV} {K : AV → Heap → Option R} {r : R} (hr : aappend P t h s x K = some r) (hh : HRel B κ h w) {vs vx : Value} (hs : VRel B κ h w s vs) (hx : VRel B κ h w x vx) (ty : TypeId) :
    ∃ v h' κ' val w', K v h' = some r ∧ (Builtin.append_ #[t, t] ty #[vs, vx]).run P w = .ok val w' ∧ VRel B κ' h' w' v val ∧ HRel B κ' h' w' ∧ Ext κ h w κ' h' w' := by
  unfold aappend at hr
  try simp only [cnd_eq] at hr
  obtain ⟨z, hz, hr1⟩ := bind_some hr
  clear hr
  obtain ⟨e, i, zv, hu, hi, hzv, rfl, hz0, hzs, hby⟩ := appSz_ok hz
  obtain ⟨new, hr2, hsl⟩ := elems_ok hr1 hh hx
  clear hr1
  have hbytes : ∀ n, n ≤ 1073741824 → n * i.bytes ≤ 140737488355328 := fun n hn => Nat.le_trans (Nat.mul_le_mul hn hby) (by omega)
  split at hr2
  · obtain ⟨hle, hK⟩ := ite_some hr2
    cases hs with | nilsl a0 =>
    by_cases hn : new = []
    · subst hn
      obtain ⟨_, a, cap, rfl, _, _⟩ := hsl
      have hrun := run_append_none (P := P) (w := w) (ty := ty) hu hi a0 0 0 a cap (Nat.le_refl _)
      have x1 : Ext κ h w (κ ++ [none]) (h ++ [.row false 0 i.size []]) w := push_ext hh rfl rfl rfl (Nat.le_refl _) (fun _ _ => rfl) (fun b base e => by cases e)
      have hh1 := push_hrel hh (fun _ _ => rfl) x1 (fun b base e => by cases e) (show ORel B (κ ++ [none]) (h ++ [.row false 0 i.size []]) w none (.row false 0 i.size []) from rfl)
      exact ⟨_, _, _, _, _, hK, hrun, row_value_none (by rw [← hh.len]; exact snoc_new κ _) (snoc_new h _), hh1, x1⟩
    · obtain ⟨b, o, cap, news, rfl, hnl, hnc, hn1, hnt⟩ := news_of hz0 hsl hn
      have hpos : 0 < new.length := List.length_pos_iff.2 hn
      have hrun := run_append_nil' (P := P) a0 w t ty e i zv hu hi hzv ⟨b, o, none⟩ new.length cap news hnl hnc hpos (by omega) (by have := hbytes _ hle; omega)
      have h5 : ∀ b', b' < w.heap.size → (w.drew.alloc (.cells (news.toArray ++ Builtin.zeroCells zv.cells (grownCap w new.length 0 e - new.length)) e)).heap[b']? = w.heap[b']? := fun b' hb' => heap_alloc_lt w.drew _ hb'
      have x1 : Ext κ h w (κ ++ [some (w.heap.size, 0)]) (h ++ [.row false 0 i.size new]) (w.drew.alloc (.cells (news.toArray ++ Builtin.zeroCells zv.cells (grownCap w new.length 0 e - new.length)) e)) :=
        push_ext (w' := w.drew.alloc _) hh rfl rfl rfl (by simp) h5 fun b base e => by injection e with e; injection e with e; omega
      have hge := grownCap_ge w new.length 0 e
      have hnew := heap_alloc_at w.drew (.cells (news.toArray ++ Builtin.zeroCells zv.cells (grownCap w new.length 0 e - new.length)) e)
      have hcap : 0 + grownCap w new.length 0 e * i.size ≤ (news.toArray ++ Builtin.zeroCells zv.cells (grownCap w new.length 0 e - new.length)).size := by
        simp only [Array.size_append, List.size_toArray, size_zeroCells, hzs, hnl, ← Nat.add_mul]
        rw [Nat.zero_add]
        exact Nat.mul_le_mul_right _ (by omega)
      have hh1 := push_hrel hh h5 x1 (fun b base e => by injection e with e; injection e with e; subst e; exact ⟨Nat.le_refl _, by simp⟩)
        (orel_row hz0 hnew (Nat.le_trans (Nat.add_le_add_left (Nat.mul_le_mul_right _ hge) _) hcap) (by
          refine ⟨hsl.1, fun j e' c y he' hy => ?_⟩
          have hjl : j < new.length := (List.getElem?_eq_some_iff.1 he').1
          have hcl : c < i.size := by rw [← hsl.1 j e' he']; exact (List.getElem?_eq_some_iff.1 hy).1
          have hq := Nat.mul_le_mul_right i.size (show j + 1 ≤ new.length from hjl)
          rw [Nat.succ_mul] at hq
          have h3 := grown_new [] news (Builtin.zeroCells zv.cells (grownCap w new.length 0 e - new.length)) (j * i.size + c) (by omega)
          simp only [List.length_nil, Nat.zero_add, Array.empty_append] at h3 ⊢
          rw [h3]
          exact (hnt j e' c y he' hy).ext x1))
      refine ⟨_, _, _, _, _, hK, hrun, ?_, hh1, x1⟩
      exact row_value (by rw [← hh.len]; exact snoc_new κ _) (snoc_new h _) hnew hcap rfl hge
  · rename_i ri ver off len
    split at hr2
    · rename_i ver' size es hri
      by_cases hc : new.length = 0 ∧ off + len < es.length
      · rw [if_pos hc] at hr2
        obtain ⟨rfl, hK⟩ := ite_some hr2
        have hn : new = [] := List.eq_nil_of_length_eq_zero hc.1
        subst hn
        obtain ⟨_, a, cap, rfl, _, _⟩ := hsl
        have hs' := hs
        cases hs with
        | sref _ _ _ _ _ _ hex hsr =>
          obtain ⟨kk, hkk⟩ := kap_some hh hri
          obtain ⟨_, _, hm⟩ := hsr kk _ hkk hri rfl
          have ho := hh.obj ri _ _ hri hkk
          cases kk with
          | none =>
            have hes : es = [] := ho
            subst hes
            simp at hc
          | some p =>
            obtain ⟨b, base⟩ := p
            obtain ⟨cap', rfl, hcap, hcs⟩ := hm
            simp only [AObj.len] at hcap
            exact ⟨_, h, κ, _, w, hK, run_append_none (P := P) (w := w) (ty := ty) hu hi _ _ _ a cap (by omega), hs', hh, Ext.refl _ _ _⟩
      rw [if_neg hc] at hr2
      obtain ⟨⟨rfl, hsz, hoff, hle⟩, hK⟩ := ite_some hr2
      clear hr2
      cases hs with
      | sref _ _ _ _ _ _ hex hsr =>
        obtain ⟨kk, hkk⟩ := kap_some hh hri
        obtain ⟨_, _, hm⟩ := hsr kk _ hkk hri rfl
        have ho := hh.obj ri _ _ hri hkk
        have hOL : ∀ L, OLe (.row false ver' size es) (.row false (ver' + 1) i.size L) := fun L => ⟨rfl, Nat.le_succ _, (fun e => by simp [AObj.ver] at e), (fun e => by cases e), (fun e => by cases e), rfl⟩
        have hver : ∀ L, (AObj.row false ver' size es).ver = (AObj.row false (ver' + 1) i.size L).ver → ∀ {p : Prop}, p := fun L e => by simp [AObj.ver] at e
        cases kk with
        | none =>
          obtain ⟨a0, rfl⟩ := hm
          have hes : es = [] := ho
          subst hes
          simp only [List.length_nil] at hoff
          obtain rfl : off = 0 := by omega
          obtain rfl : len = 0 := by omega
          simp only [Nat.zero_add, List.drop_nil, List.take_nil, List.nil_append] at hK hle
          by_cases hn : new = []
          · subst hn
            obtain ⟨_, a, cap, rfl, _, _⟩ := hsl
            have hrun := run_append_none (P := P) (w := w) (ty := ty) hu hi a0 0 0 a cap (Nat.le_refl _)
            have x1 : Ext κ h w (κ.set ri none) (h.set ri (.row false (ver' + 1) i.size [])) w :=
              upd_ext hh hri rfl (hOL []) hkk rfl rfl rfl (Nat.le_refl _) (fun _ _ _ => rfl) (fun b base e => by cases e) (fun e => hver [] e)
            have hh1 := upd_hrel hh hri hkk (fun _ _ _ => rfl) (fun b base e => by cases e) x1 (show ORel B (κ.set ri none) (h.set ri (.row false (ver' + 1) i.size [])) w none (.row false (ver' + 1) i.size []) from rfl)
            exact ⟨_, _, _, _, _, hK, hrun, row_value_none (set_new hkk) (set_new hri), hh1, x1⟩
          · obtain ⟨b, o, cap, news, rfl, hnl, hnc, hn1, hnt⟩ := news_of hz0 hsl hn
            have hpos : 0 < new.length := List.length_pos_iff.2 hn
            have hrun := run_append_nil' (P := P) a0 w t ty e i zv hu hi hzv ⟨b, o, none⟩ new.length cap news hnl hnc hpos (by omega) (by have := hbytes _ hle; omega)
            have h5 : ∀ b', b' < w.heap.size → (w.drew.alloc (.cells (news.toArray ++ Builtin.zeroCells zv.cells (grownCap w new.length 0 e - new.length)) e)).heap[b']? = w.heap[b']? := fun b' hb' => heap_alloc_lt w.drew _ hb'
            have x1 : Ext κ h w (κ.set ri (some (w.heap.size, 0))) (h.set ri (.row false (ver' + 1) i.size new)) (w.drew.alloc (.cells (news.toArray ++ Builtin.zeroCells zv.cells (grownCap w new.length 0 e - new.length)) e)) :=
              upd_ext (w' := w.drew.alloc _) hh hri rfl (hOL new) hkk rfl rfl rfl (by simp) (fun b' hb' _ => h5 b' hb') (fun b base e => by injection e with e; injection e with e; exact .inr (by omega)) (fun e => hver new e)
            have hge := grownCap_ge w new.length 0 e
            have hnew := heap_alloc_at w.drew (.cells (news.toArray ++ Builtin.zeroCells zv.cells (grownCap w new.length 0 e - new.length)) e)
            have hcap : 0 + grownCap w new.length 0 e * i.size ≤ (news.toArray ++ Builtin.zeroCells zv.cells (grownCap w new.length 0 e - new.length)).size := by
              simp only [Array.size_append, List.size_toArray, size_zeroCells, hzs, hnl, ← Nat.add_mul]
              rw [Nat.zero_add]
              exact Nat.mul_le_mul_right _ (by omega)
            have hh1 := upd_hrel hh hri hkk (fun b' hb' _ => h5 b' hb') (fun b base e => by injection e with e; injection e with e; subst e; exact ⟨.inr (Nat.le_refl _), by simp⟩) x1
              (orel_row hz0 hnew (Nat.le_trans (Nat.add_le_add_left (Nat.mul_le_mul_right _ hge) _) hcap) (by
                refine ⟨hsl.1, fun j e' c y he' hy => ?_⟩
                have hjl : j < new.length := (List.getElem?_eq_some_iff.1 he').1
                have hcl : c < i.size := by rw [← hsl.1 j e' he']; exact (List.getElem?_eq_some_iff.1 hy).1
                have hq := Nat.mul_le_mul_right i.size (show j + 1 ≤ new.length from hjl)
                rw [Nat.succ_mul] at hq
                have h3 := grown_new [] news (Builtin.zeroCells zv.cells (grownCap w new.length 0 e - new.length)) (j * i.size + c) (by omega)
                simp only [List.length_nil, Nat.zero_add, Array.empty_append] at h3 ⊢
                rw [h3]
                exact (hnt j e' c y he' hy).ext x1))
            exact ⟨_, _, _, _, _, hK, hrun, row_value (set_new hkk) (set_new hri) hnew hcap rfl hge, hh1, x1⟩
        | some p =>
          obtain ⟨b, base⟩ := p
          obtain ⟨cap, rfl, hcap', hcs⟩ := hm
          have hcap : len ≤ cap := by simp only [AObj.len] at hcap'; omega
          obtain ⟨hsz0, cells, el, hcell, hcsz, hls, hct⟩ := ho
          obtain rfl : size = i.size := hsz.resolve_right hsz0
          have hcapc := hcs cells el _ hcell
          simp only [AObj.size] at hcapc ⊢
          rw [Nat.add_mul] at hcapc
          have hdl : ((es.drop off).take len).length = len := by simp; omega
          have hold : RowCells w (fun b => B b ∨ Ex κ h b) i.size ((es.drop off).take len) fun q => cells.getD (base + off * i.size + q) undef := by
            have hget : ∀ (j : Nat) e', ((es.drop off).take len)[j]? = some e' → es[off + j]? = some e' := fun j e' he => by
              have hj : j < len := by have := (List.getElem?_eq_some_iff.1 he).1; simp at this; omega
              rw [List.getElem?_take_of_lt hj, List.getElem?_drop] at he
              exact he
            refine ⟨fun j e' he' => hls _ e' (hget j e' he'), fun j e' c y he' hy => ?_⟩
            have he' := hget j e' he'
            have := hct _ e' c y he' hy
            rw [Nat.add_mul] at this
            dsimp only
            rw [show base + off * i.size + (j * i.size + c) = base + (off * i.size + j * i.size + c) from by omega]
            exact this
          by_cases hn : new = []
          · subst hn
            obtain ⟨_, a, cap', rfl, _, _⟩ := hsl
            have hrun := run_append_none (P := P) (w := w) (ty := ty) hu hi (some ⟨b, base + off * i.size, none⟩) len cap a cap' hcap
            simp only [List.append_nil, List.length_nil, Nat.add_zero] at hK
            have x1 : Ext κ h w (κ.set ri (some (b, base + off * i.size))) (h.set ri (.row false (ver' + 1) i.size ((es.drop off).take len))) w :=
              upd_ext hh hri rfl (hOL _) hkk rfl rfl rfl (Nat.le_refl _) (fun _ _ _ => rfl) (fun b' base' e => by injection e with e; injection e with e1 e2; subst e1; exact .inl ⟨base, rfl⟩) (fun e => hver _ e)
            have hh1 := upd_hrel hh hri hkk (fun _ _ _ => rfl) (fun b' base' e => by injection e with e; injection e with e1 e2; subst e1; exact ⟨.inl ⟨base, rfl⟩, hh.lt ri _ base hkk⟩) x1
              (orel_row hz0 hcell (by rw [hdl]; have := Nat.mul_le_mul_right i.size hcap; omega) (rowCells_ext x1 hold))
            exact ⟨_, _, _, _, _, hK, hrun, row_value (set_new hkk) (set_new hri) hcell (by omega) hdl hcap, hh1, x1⟩
          · obtain ⟨nb, o, ncap, news, rfl, hnl, hnc, hn1, hnt⟩ := news_of hz0 hsl hn
            have hpos : 0 < new.length := List.length_pos_iff.2 hn
            have hlen2 : ((es.drop off).take len ++ new).length = len + new.length := by rw [List.length_append, hdl]
            have hnr : RowCells w (fun b => B b ∨ Ex κ h b) i.size new fun q => news.getD q undef := ⟨hsl.1, hnt⟩
            by_cases hroom : len + new.length ≤ cap
            · have hmul := Nat.mul_le_mul_right i.size hroom
              rw [Nat.add_mul] at hmul
              have hfit : base + off * i.size + len * i.size + news.length ≤ cells.size := by omega
              have hrun := run_append_room' (P := P) (ty := ty) (w := w) (c := ncap) hu hi hcell hnl hnc hn1 hroom hfit
              have hseg := segArr_size cells _ _ hfit
              have hnew := setRow_heap w b cells (segArr cells (base + off * i.size + len * i.size) news) el _ hcell
              have h5 : ∀ b', b' < w.heap.size → (∀ base', (some (b, base) : Option (Nat × Nat)) ≠ some (b', base')) → (w.setRow b (segArr cells (base + off * i.size + len * i.size) news)).heap[b']? = w.heap[b']? :=
                fun b' _ hb' => setRow_other w b _ fun e => hb' base (by rw [e])
              have x1 : Ext κ h w (κ.set ri (some (b, base + off * i.size))) (h.set ri (.row false (ver' + 1) i.size ((es.drop off).take len ++ new))) (w.setRow b (segArr cells (base + off * i.size + len * i.size) news)) :=
                upd_ext (w' := w.setRow b _) hh hri rfl (hOL _) hkk rfl rfl rfl (by rw [setRow_size]; exact Nat.le_refl _) h5 (fun b' base' e => by injection e with e; injection e with e1 e2; subst e1; exact .inl ⟨base, rfl⟩) (fun e => hver _ e)
              have hh1 := upd_hrel hh hri hkk h5 (fun b' base' e => by injection e with e; injection e with e1 e2; subst e1; exact ⟨.inl ⟨base, rfl⟩, by rw [setRow_size]; exact hh.lt ri _ base hkk⟩) x1
                (orel_row hz0 hnew (by rw [hlen2, hseg, Nat.add_mul]; omega) (rowCells_ext x1 (rowCells_append hold (by
                  refine ⟨hnr.1, fun j e' c y he' hy => ?_⟩
                  have hjl : j < new.length := (List.getElem?_eq_some_iff.1 he').1
                  have hcl : c < i.size := by rw [← hsl.1 j e' he']; exact (List.getElem?_eq_some_iff.1 hy).1
                  have hq := Nat.mul_le_mul_right i.size (show j + 1 ≤ new.length from hjl)
                  rw [Nat.succ_mul] at hq
                  dsimp only
                  rw [hdl, segArr_get cells _ _ hfit, if_pos ⟨by omega, by omega⟩]
                  rw [show base + off * i.size + (len * i.size + (j * i.size + c)) - (base + off * i.size + len * i.size) = j * i.size + c from by omega]
                  exact hnt j e' c y he' hy) (fun q hq => by
                  rw [hdl] at hq
                  rw [segArr_get cells _ _ hfit, if_neg (by omega)]))))
              exact ⟨_, _, _, _, _, hK, hrun, row_value (set_new hkk) (set_new hri) hnew (by rw [hseg]; omega) hlen2 hroom, hh1, x1⟩
            · let olds : List Value := (List.range (len * i.size)).map fun q => cells.getD (base + off * i.size + q) undef
              have hol : olds.length = len * i.size := by simp [olds]
              have hog : ∀ q, q < len * i.size → olds.getD q undef = cells.getD (base + off * i.size + q) undef := fun q hq => by simp [olds, List.getD, hq]
              have holds : ∀ j v, olds[j]? = some v → w.cell? ((⟨b, base + off * i.size, none⟩ : Addr).add j) = some v := fun j v hv => by
                have hj : j < len * i.size := by rw [← hol]; exact (List.getElem?_eq_some_iff.1 hv).1
                simp only [olds, List.getElem?_map, List.getElem?_range hj, Option.map_some, Option.some.injEq] at hv
                subst hv
                rw [add_off]
                have hm2 := Nat.mul_le_mul_right i.size hcap
                exact cell_of_block hcell (by omega)
              have hrun := run_append_grow (P := P) w t ty e i zv hu hi hzv ⟨b, base + off * i.size, none⟩ len cap olds hol holds ⟨nb, o, none⟩ new.length ncap news hnl hnc (by omega) (by omega) (growslice_fits (by omega) (hbytes _ hle))
              have h5 : ∀ b', b' < w.heap.size → (w.drew.alloc (.cells (olds.toArray ++ news.toArray ++ Builtin.zeroCells zv.cells (grownCap w (len + new.length) cap e - (len + new.length))) e)).heap[b']? = w.heap[b']? := fun b' hb' => heap_alloc_lt w.drew _ hb'
              have x1 : Ext κ h w (κ.set ri (some (w.heap.size, 0))) (h.set ri (.row false (ver' + 1) i.size ((es.drop off).take len ++ new))) (w.drew.alloc (.cells (olds.toArray ++ news.toArray ++ Builtin.zeroCells zv.cells (grownCap w (len + new.length) cap e - (len + new.length))) e)) :=
                upd_ext (w' := w.drew.alloc _) hh hri rfl (hOL _) hkk rfl rfl rfl (by simp) (fun b' hb' _ => h5 b' hb') (fun b base e => by injection e with e; injection e with e; exact .inr (by omega)) (fun e => hver _ e)
              have hge := grownCap_ge w (len + new.length) cap e
              have hnew := heap_alloc_at w.drew (.cells (olds.toArray ++ news.toArray ++ Builtin.zeroCells zv.cells (grownCap w (len + new.length) cap e - (len + new.length))) e)
              have hcap2 : 0 + grownCap w (len + new.length) cap e * i.size ≤ (olds.toArray ++ news.toArray ++ Builtin.zeroCells zv.cells (grownCap w (len + new.length) cap e - (len + new.length))).size := by
                simp only [Array.size_append, List.size_toArray, size_zeroCells, hzs, hnl, hol, ← Nat.add_mul]
                rw [Nat.zero_add]
                exact Nat.mul_le_mul_right _ (by omega)
              have hh1 := upd_hrel hh hri hkk (fun b' hb' _ => h5 b' hb') (fun b base e => by injection e with e; injection e with e; subst e; exact ⟨.inr (Nat.le_refl _), by simp⟩) x1
                (orel_row hz0 hnew (by rw [hlen2]; exact Nat.le_trans (Nat.add_le_add_left (Nat.mul_le_mul_right _ hge) _) hcap2) (rowCells_ext x1 (rowCells_append hold (by
                  refine ⟨hnr.1, fun j e' c y he' hy => ?_⟩
                  have hjl : j < new.length := (List.getElem?_eq_some_iff.1 he').1
                  have hcl : c < i.size := by rw [← hsl.1 j e' he']; exact (List.getElem?_eq_some_iff.1 hy).1
                  have hq := Nat.mul_le_mul_right i.size (show j + 1 ≤ new.length from hjl)
                  rw [Nat.succ_mul] at hq
                  dsimp only
                  rw [hdl, Nat.zero_add, ← hol, grown_new _ _ _ _ (by omega)]
                  exact hnt j e' c y he' hy) (fun q hq => by
                  rw [hdl] at hq
                  rw [Nat.zero_add, grown_old _ _ _ _ (by omega), hog q hq]))))
              exact ⟨_, _, _, _, _, hK, hrun, row_value (set_new hkk) (set_new hri) hnew hcap2 hlen2 hge, hh1, x1⟩
    · cases hr2
  · cases hr2

end Ab
