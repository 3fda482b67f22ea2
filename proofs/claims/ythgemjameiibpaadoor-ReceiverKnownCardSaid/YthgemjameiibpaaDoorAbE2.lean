/- Soundness: elements of a row are overwritten; append within a row, clear, copy, make. -/
import Derived.Test.YthgemjameiibpaaDoorAbE
import Derived.Laws.MakeOwn
set_option linter.unusedVariables false
set_option linter.unusedSimpArgs false
namespace Ab
open Go

variable {R : Type} {P : Program} {B : Nat → Prop} {κ : KMap} {h : Heap} {w : World}

theorem rowSet_length {es new : List (List Tree)} {p : Nat} (hp : p + new.length ≤ es.length) : (rowSet es p new).length = es.length := by
  simp [rowSet]; omega
theorem rowSet_get {es new : List (List Tree)} {p : Nat} (hp : p + new.length ≤ es.length) (j : Nat) : (rowSet es p new)[j]? = if p ≤ j ∧ j < p + new.length then new[j - p]? else es[j]? := by
  unfold rowSet
  have hl : (es.take p).length = p := by simp; omega
  by_cases h1 : j < p
  · rw [List.append_assoc, List.getElem?_append_left (by omega), List.getElem?_take_of_lt h1, if_neg (by omega)]
  · by_cases h2 : j < p + new.length
    · rw [List.getElem?_append_left (by simp; omega), List.getElem?_append_right (by omega), hl, if_pos ⟨by omega, h2⟩]
    · rw [List.getElem?_append_right (by simp; omega), List.getElem?_drop, if_neg (by omega)]
      congr 1
      simp
      omega

theorem tk_get {α : Type} {l : List α} {m i : Nat} {x : α} (hx : (l.take m)[i]? = some x) : i < m ∧ l[i]? = some x := by
  rcases Nat.lt_or_ge i m with h1 | h1
  · rw [List.getElem?_take_of_lt h1] at hx; exact ⟨h1, hx⟩
  · simp [List.getElem?_take, Nat.not_lt.2 h1] at hx

/-- Elements of a row are overwritten. -/
theorem rowset_ok (hh : HRel B κ h w) {i ver z b base : Nat} {es new : List (List Tree)} {cells : Array Value} {el : TypeId} (hi : h[i]? = some (.row false ver z es)) (hk : κ[i]? = some (some (b, base)))
    (hcell : w.heap[b]? = some (.cells cells el (0, 0))) {p : Nat} {vals : List Value} (hp : p + new.length ≤ es.length) (hvl : vals.length = new.length * z)
    (hn : RowCells w (fun b => B b ∨ Ex κ h b) z new fun q => vals.getD q undef) :
    base + p * z + vals.length ≤ cells.size ∧ (w.setRow b (segArr cells (base + p * z) vals)).heap[b]? = some (.cells (segArr cells (base + p * z) vals) el (0, 0)) ∧ (segArr cells (base + p * z) vals).size = cells.size ∧
    HRel B κ (h.set i (.row false ver z (rowSet es p new))) (w.setRow b (segArr cells (base + p * z) vals)) ∧ Ext κ h w κ (h.set i (.row false ver z (rowSet es p new))) (w.setRow b (segArr cells (base + p * z) vals)) := by
  obtain ⟨hz0, cells', elem, hcell', hs, hls, hcv⟩ := hh.obj i _ _ hi hk
  rw [hcell] at hcell'
  cases hcell'
  have hmul := Nat.mul_le_mul_right z hp
  rw [Nat.add_mul] at hmul
  have hfit : base + p * z + vals.length ≤ cells.size := by omega
  have hsz := segArr_size cells (base + p * z) vals hfit
  have hnew := setRow_heap w b cells (segArr cells (base + p * z) vals) el _ hcell
  have hset : (κ.set i (some (b, base))) = κ := by
    apply List.ext_getElem?
    intro j
    by_cases hij : j = i
    · rw [hij, set_new hk, hk]
    · rw [set_old hij]
  have hrl := rowSet_length hp
  have x2 : Ext κ h w κ (h.set i (.row false ver z (rowSet es p new))) (w.setRow b (segArr cells (base + p * z) vals)) := by
    have x2' : Ext κ h w (κ.set i (some (b, base))) (h.set i (.row false ver z (rowSet es p new))) (w.setRow b (segArr cells (base + p * z) vals)) := by
      refine upd_ext (o' := .row false ver z (rowSet es p new)) (k' := some (b, base)) (w' := w.setRow b (segArr cells (base + p * z) vals)) hh hi rfl ⟨rfl, Nat.le_refl _, (fun _ => ⟨rfl, by simp [AObj.len, hrl]⟩), (fun e => by cases e), (fun e => by cases e), rfl⟩ hk rfl rfl rfl (by rw [setRow_size]; exact Nat.le_refl _) (fun b' _ hb' => setRow_other w b _ fun e => hb' base (by rw [e])) (fun b' base' e => by injection e with e; injection e with e1 e2; subst e1; exact .inl ⟨base, rfl⟩) (fun _ => ⟨rfl, fun b' base' e cells' elem' fr' hc' => ?_⟩)
      cases e
      rw [hnew] at hc'
      cases hc'
      exact ⟨cells, hcell, hsz.symm⟩
    rw [hset] at x2'
    exact x2'
  have hh2 : HRel B (κ.set i (some (b, base))) (h.set i (.row false ver z (rowSet es p new))) (w.setRow b (segArr cells (base + p * z) vals)) := by
    refine upd_hrel hh hi hk (fun b' _ hb' => setRow_other w b _ fun e => hb' base (by rw [e])) (fun b' base' e => by injection e with e; injection e with e1 e2; subst e1; exact ⟨.inl ⟨base, rfl⟩, by rw [setRow_size]; exact hh.lt i b base hk⟩) (by rw [hset]; exact x2) ?_
    rw [hset]
    refine ⟨hz0, _, el, hnew, by rw [hsz, hrl]; exact hs, fun j e' he' => ?_, fun j e' c x he' hx => ?_⟩
    · rw [rowSet_get hp] at he'
      split at he'
      · exact hn.1 _ e' he'
      · exact hls j e' he'
    · rw [segArr_get cells _ _ hfit]
      rw [rowSet_get hp] at he'
      split at he'
      · rename_i hj
        have hcl : c < z := by rw [← hn.1 _ e' he']; exact (List.getElem?_eq_some_iff.1 hx).1
        have h3 := hn.2 _ e' c x he' hx
        have e1 : j * z = p * z + (j - p) * z := by rw [← Nat.add_mul]; congr 1; omega
        have hq := Nat.mul_le_mul_right z (show j - p + 1 ≤ new.length by omega)
        rw [Nat.succ_mul] at hq
        rw [if_pos ⟨by omega, by omega⟩, show base + (j * z + c) - (base + p * z) = (j - p) * z + c by omega]
        exact h3.ext x2
      · rename_i hj
        have hcl : c < z := by rw [← hls _ e' he']; exact (List.getElem?_eq_some_iff.1 hx).1
        rw [if_neg ?_]
        · exact (hcv j e' c x he' hx).ext x2
        · rintro ⟨h1, h2⟩
          rcases Nat.lt_or_ge j p with hlt | hge
          · have := Nat.mul_le_mul_right z (show j + 1 ≤ p from hlt)
            rw [Nat.succ_mul] at this
            omega
          · have := Nat.mul_le_mul_right z (show p + new.length ≤ j by omega)
            rw [Nat.add_mul] at this
            omega
  rw [hset] at hh2
  exact ⟨hfit, hnew, hsz, hh2, x2⟩

/-- A slice over a row that was overwritten. -/
theorem sref_value {κ' : KMap} {h' : Heap} {w' : World} {i ver z b base off cap n : Nat} {L : List (List Tree)} {cells : Array Value} {el : TypeId} (hk : κ'[i]? = some (some (b, base))) (hi : h'[i]? = some (.row false ver z L))
    (hc : w'.heap[b]? = some (.cells cells el (0, 0))) (hcap : base + (off + cap) * z ≤ cells.size) (hn : off + n ≤ L.length) (hle : L.length ≤ off + cap) : VRel B κ' h' w' (.sref i ver off n) (.slice (some ⟨b, base + off * z, none⟩) n cap) := by
  refine .sref _ _ _ _ _ rfl ⟨_, hi, Nat.le_refl _⟩ fun k o hk' ho' _ => ?_
  rw [hk] at hk'
  cases hk'
  rw [hi] at ho'
  cases ho'
  refine ⟨rfl, hn, cap, rfl, hle, fun cells' elem' fr' hc' => ?_⟩
  rw [hc] at hc'
  cases hc'
  exact hcap

theorem aappendIn_ok {t : TypeId} {s x : AV} {K : AV → Heap → Option R} {r : R} (hr : aappendIn P t h s x K = some r) (hh : HRel B κ h w) {vs vx : Value} (hs : VRel B κ h w s vs) (hx : VRel B κ h w x vx) (ty : TypeId) :
    ∃ v h' κ' val w', K v h' = some r ∧ (Builtin.append_ #[t, t] ty #[vs, vx]).run P w = .ok val w' ∧ VRel B κ' h' w' v val ∧ HRel B κ' h' w' ∧ Ext κ h w κ' h' w' := by
  unfold aappendIn at hr
  try simp only [cnd_eq] at hr
  obtain ⟨z, hz, hr1⟩ := bind_some hr
  clear hr
  obtain ⟨e, i, zv, hu, hi, hzv, rfl, hz0, hzs, hby⟩ := appSz_ok hz
  obtain ⟨new, hr2, hsl⟩ := elems_ok hr1 hh hx
  clear hr1
  split at hr2
  · rename_i ri ver off len
    split at hr2
    · rename_i ver' size es hri
      obtain ⟨⟨rfl, rfl, hfits⟩, hK⟩ := ite_some hr2
      clear hr2
      cases hs with
      | sref _ _ _ _ _ _ hex hsr =>
        obtain ⟨kk, hkk⟩ := kap_some hh hri
        obtain ⟨_, hle, hm⟩ := hsr kk _ hkk hri rfl
        simp only [AObj.len] at hle
        have ho := hh.obj ri _ _ hri hkk
        cases kk with
        | none =>
          obtain ⟨a0, rfl⟩ := hm
          have hes : es = [] := ho
          subst hes
          simp only [List.length_nil] at hfits
          have hn : new = [] := List.eq_nil_of_length_eq_zero (by omega)
          subst hn
          obtain ⟨_, a, cap, rfl, _, _⟩ := hsl
          have hrun := run_append_none (P := P) (w := w) (ty := ty) hu hi a0 0 0 a cap (Nat.le_refl _)
          obtain rfl : len = 0 := by omega
          obtain rfl : off = 0 := by omega
          have hset : h.set ri (.row false ver' i.size (rowSet [] (0 + 0) [])) = h := by
            apply List.ext_getElem?
            intro j
            by_cases hij : j = ri
            · rw [hij, set_new hri, hri]; rfl
            · rw [set_old hij]
          rw [hset] at hK
          exact ⟨_, h, κ, _, w, hK, hrun, row_value_none hkk hri, hh, Ext.refl _ _ _⟩
        | some p =>
          obtain ⟨b, base⟩ := p
          obtain ⟨cap, rfl, hcap, hcs⟩ := hm
          simp only [AObj.len] at hcap
          obtain ⟨hsz0, cells, el, hcell, hcsz, hls, hct⟩ := ho
          have hcapc := hcs cells el _ hcell
          simp only [AObj.size] at hcapc ⊢
          by_cases hn : new = []
          · subst hn
            obtain ⟨_, a, cap', rfl, _, _⟩ := hsl
            have hrun := run_append_none (P := P) (w := w) (ty := ty) hu hi (some ⟨b, base + off * i.size, none⟩) len cap a cap' (by omega)
            have hset : h.set ri (.row false ver' i.size (rowSet es (off + len) [])) = h := by
              apply List.ext_getElem?
              intro j
              by_cases hij : j = ri
              · rw [hij, set_new hri, hri]; simp [rowSet]
              · rw [set_old hij]
            rw [hset] at hK
            exact ⟨_, h, κ, _, w, hK, hrun, sref_value hkk hri hcell hcapc (by simpa using hle) hcap, hh, Ext.refl _ _ _⟩
          · obtain ⟨nb, o, ncap, news, rfl, hnl, hnc, hn1, hnt⟩ := news_of hz0 hsl hn
            obtain ⟨f1, f2, f3, f4, f5⟩ := rowset_ok (new := new) (p := off + len) (vals := news) hh hri hkk hcell hfits hnl ⟨hsl.1, hnt⟩
            have he : base + (off + len) * i.size = base + off * i.size + len * i.size := by rw [Nat.add_mul]; omega
            have hrun := run_append_room' (P := P) (ty := ty) (w := w) (sLen := len) (sCap := cap) (o := base + off * i.size) (c := ncap) hu hi hcell hnl hnc hn1 (by omega) (by omega)
            rw [← he] at hrun
            have hrl := rowSet_length hfits
            exact ⟨_, _, _, _, _, hK, hrun, sref_value hkk (set_new hri) f2 (by rw [f3]; exact hcapc) (by rw [hrl]; omega) (by rw [hrl]; exact hcap), f4, f5⟩
    · cases hr2
  · cases hr2

/-! ### zero values -/
theorem zeroT_ok {e : TypeId} {K : List Tree → Option R} {r : R} (hr : zeroT P h e K = some r) (hh : HRel B κ h w) :
    ∃ zs i v, K zs = some r ∧ P.info? e = some i ∧ i.zero = some v ∧ v.cells.size = zs.length ∧ zs.length ≠ 0 ∧ i.size = zs.length ∧ (∀ u ∈ v.cells.toList, u.oneCell' = true) ∧
      ∀ (c : Nat) (x : Tree), zs[c]? = some x → TRel w (fun b => B b ∨ Ex κ h b) x (v.cells.getD c undef) := by
  unfold zeroT at hr
  try simp only [cnd_eq] at hr
  split at hr
  · rename_i z n hz hn
    obtain ⟨⟨hn0, hzl⟩, hr⟩ := ite_some hr
    obtain ⟨i, v, hi, hv, hc⟩ := zeroCells_ok (B := B) (κ := κ) (h := h) (w := w) hz
    obtain ⟨zs, hK, hzs, _, hT⟩ := convs_ok (P := P) hr hh (vs := v.cells.toList) (by simpa using hc.1) (cellsRel_list hc)
    have hs : v.cells.size = zs.length := by rw [hzs]; exact hc.1
    have hsi : i.size = n := by simpa [szOf, hi] using hn
    refine ⟨zs, i, v, hK, hi, hv, hs, by omega, by omega, fun u hu => ?_, fun c x hx => ?_⟩
    · obtain ⟨j, hj, rfl⟩ := List.getElem_of_mem hu
      have hj' : j < zs.length := by rw [← hs]; simpa using hj
      exact (hT j _ _ (List.getElem?_eq_getElem hj') (List.getElem?_eq_getElem hj)).one
    · have hj' : c < v.cells.size := by rw [hs]; exact lt_of_get hx
      have := hT c x (v.cells.getD c undef) hx (by simp [Array.getD, hj'])
      exact this.less fun b hb => hb.imp id fun e => ⟨rfl, e⟩
  · cases hr

theorem zeroCells_get (zero : Array Value) (n q : Nat) (hq : q < n * zero.size) : (Builtin.zeroCells zero n).toList[q]? = some (zero.getD (q % zero.size) undef) := by
  have hpos : 0 < zero.size := by
    rcases Nat.eq_zero_or_pos zero.size with h0 | h0
    · rw [h0] at hq; omega
    · exact h0
  have hlt := Nat.mod_lt q hpos
  have hlen : (Builtin.zeroCells zero n).size = n * zero.size := size_zeroCells zero n
  have hq2 : q < (Builtin.zeroCells zero n).size := by rw [hlen]; exact hq
  rw [Array.getElem?_toList, Array.getElem?_eq_getElem hq2]
  simp [Builtin.zeroCells, Array.getD, hlt]

theorem zero_row {A : Nat → Prop} {zs : List Tree} {v : Value} (hs : v.cells.size = zs.length) (hT : ∀ (c : Nat) (x : Tree), zs[c]? = some x → TRel w A x (v.cells.getD c undef)) (n : Nat) :
    RowCells w A zs.length (List.replicate n zs) fun q => (Builtin.zeroCells v.cells n).toList.getD q undef := by
  refine ⟨fun j e he => ?_, fun j e c x he hx => ?_⟩
  · rw [List.getElem?_replicate] at he
    split at he <;> cases he
    rfl
  · rw [List.getElem?_replicate] at he
    split at he
    · rename_i hj
      cases he
      have hc : c < zs.length := lt_of_get hx
      have hq := Nat.mul_le_mul_right zs.length (show j + 1 ≤ n from hj)
      rw [Nat.succ_mul] at hq
      have := zeroCells_get v.cells n (j * zs.length + c) (by rw [hs]; omega)
      simp only [List.getD, this, Option.getD_some]
      rw [hs, Nat.add_comm, Nat.add_mul_mod_self_right, Nat.mod_eq_of_lt hc]
      exact hT c x hx
    · cases he

theorem zeroCells_one {v : Value} (h1 : ∀ u ∈ v.cells.toList, u.oneCell' = true) (n : Nat) : ∀ u ∈ (Builtin.zeroCells v.cells n).toList, u.oneCell' = true := by
  intro u hu
  obtain ⟨q, hq⟩ := List.mem_iff_getElem?.1 hu
  have hql : q < n * v.cells.size := by
    have := lt_of_get hq
    rw [Array.length_toList, size_zeroCells] at this
    exact this
  rw [zeroCells_get _ _ _ hql] at hq
  cases hq
  have hpos : 0 < v.cells.size := by
    rcases Nat.eq_zero_or_pos v.cells.size with h0 | h0
    · rw [h0] at hql; omega
    · exact h0
  have hlt := Nat.mod_lt q hpos
  refine h1 _ ?_
  simp only [Array.getD, hlt, dif_pos]
  simp

theorem aclear_ok {t : TypeId} {x : AV} {K : Heap → Option R} {r : R} (hr : aclear P t h x K = some r) (hh : HRel B κ h w) {vx : Value} (hx : VRel B κ h w x vx) (ty : TypeId) :
    ∃ h' w', K h' = some r ∧ (Builtin.clear_ #[t] ty #[vx]).run P w = .ok (.tuple #[]) w' ∧ HRel B κ h' w' ∧ Ext κ h w κ h' w' := by
  unfold aclear at hr
  try simp only [cnd_eq] at hr
  split at hr
  · rename_i e hu
    have hnone : ∀ (a : Option Addr) (c : Nat), (Builtin.clear_ #[t] ty #[.slice a 0 c]).run P w = .ok (.tuple #[]) w := fun a c => by
      cases a <;> simp [Builtin.clear_, run_underlying hu]
    split at hr
    · rename_i z es
      obtain ⟨h0, hK⟩ := ite_some hr
      have hes : es = [] := List.eq_nil_of_length_eq_zero h0
      subst hes
      cases hx with
      | t _ _ ht =>
        obtain ⟨_, a, cap, rfl, _, _⟩ := SlRel.of_tree ht
        exact ⟨h, w, hK, hnone _ _, hh, Ext.refl _ _ _⟩
    · cases hx with
      | nilsl a0 => exact ⟨h, w, hr, hnone _ _, hh, Ext.refl _ _ _⟩
    · rename_i ri ver off len
      obtain ⟨zs, i, v, hr1, hi, hv, hs, hz0, hsi, h1, hT⟩ := zeroT_ok hr hh
      split at hr1
      · rename_i ver' size es hri
        obtain ⟨⟨rfl, rfl⟩, hK⟩ := ite_some hr1
        cases hx with
        | sref _ _ _ _ _ _ hex hsr =>
          obtain ⟨kk, hkk⟩ := kap_some hh hri
          obtain ⟨_, hle, hm⟩ := hsr kk _ hkk hri rfl
          simp only [AObj.len] at hle
          have ho := hh.obj ri _ _ hri hkk
          have hsame : len = 0 → h.set ri (.row false ver' zs.length (rowSet es off (List.replicate len zs))) = h := fun h0 => by
            subst h0
            apply List.ext_getElem?
            intro j
            by_cases hij : j = ri
            · rw [hij, set_new hri, hri]; simp [rowSet]
            · rw [set_old hij]
          cases kk with
          | none =>
            obtain ⟨a0, rfl⟩ := hm
            have hes : es = [] := ho
            subst hes
            have h0 : len = 0 := by simp at hle; omega
            rw [hsame h0] at hK
            exact ⟨h, w, hK, hnone _ _, hh, Ext.refl _ _ _⟩
          | some p =>
            obtain ⟨b, base⟩ := p
            obtain ⟨cap, rfl, hcap, hcs⟩ := hm
            obtain ⟨hsz0, cells, el, hcell, hcsz, hls, hct⟩ := ho
            simp only [AObj.size]
            cases len with
            | zero =>
              rw [hsame rfl] at hK
              exact ⟨h, w, hK, hnone _ _, hh, Ext.refl _ _ _⟩
            | succ n =>
              obtain ⟨f1, f2, f3, f4, f5⟩ := rowset_ok (new := List.replicate (n + 1) zs) (p := off) (vals := (Builtin.zeroCells v.cells (n + 1)).toList) hh hri hkk hcell (by simpa using hle) (by rw [Array.length_toList, size_zeroCells, hs]; simp) (zero_row hs hT (n + 1))
              refine ⟨_, _, hK, ?_, f4, f5⟩
              have hst := run_storeCells_at P b (base + off * zs.length) el (Builtin.zeroCells v.cells (n + 1)).toList 0 cells w hcell (by simpa using f1) (zeroCells_one h1 (n + 1))
              simp only [Nat.add_zero] at hst
              simp [Builtin.clear_, run_underlying hu, zeroValue, typeInfo, hi, hv, hst, segArr]
      · cases hr1
    · cases hr
  · cases hr

/-- What a copy reads. -/
structure Src (P : Program) (w : World) (A : Nat → Prop) (z : Nat) (new : List (List Tree)) (vx : Value) : Prop where
  sz : ∀ (j : Nat) (e : List Tree), new[j]? = some e → e.length = z
  len : (Builtin.lenOf vx).run P w = .ok new.length w
  zero : (Builtin.firstCells z 0 vx).run P w = .ok #[] w
  get : z ≠ 0 → new ≠ [] → ∃ news : List Value, news.length = new.length * z ∧ (∀ u ∈ news, u.oneCell' = true) ∧ (∀ (j : Nat) (e : List Tree) (c : Nat) (x : Tree), new[j]? = some e → e[c]? = some x → TRel w A x (news.getD (j * z + c) undef)) ∧
    ∀ m, m ≤ new.length → (Builtin.firstCells z m vx).run P w = .ok (news.take (m * z)).toArray w
theorem Src.of_sl {A : Nat → Prop} {z : Nat} {new : List (List Tree)} {vx : Value} (hs : SlRel w A z new vx) : Src P w A z new vx where
  sz := hs.1
  len := by
    obtain ⟨_, a, cap, rfl, _, _⟩ := hs
    simp [Builtin.lenOf]
  zero := by
    obtain ⟨_, a, cap, rfl, _, _⟩ := hs
    cases a <;> simp [Builtin.firstCells, loadCells, loadCellsFrom]
  get hz hn := by
    obtain ⟨nb, o, ncap, news, rfl, hnl, hnc, hn1, hnt⟩ := news_of hz hs hn
    refine ⟨news, hnl, hn1, hnt, fun m hm => ?_⟩
    have hle := Nat.mul_le_mul_right z hm
    exact run_firstCells_some (P := P) w z m ⟨nb, o, none⟩ new.length ncap (news.take (m * z)) (by rw [List.length_take, hnl]; omega) (fun j v hj => hnc j v (tk_get hj).2)
theorem Src.of_str {A : Nat → Prop} (s : ByteArray) : Src P w A 1 (strRow s) (.string s) where
  sz j e he := by
    unfold strRow at he
    rw [List.getElem?_map] at he
    cases hb : s.data.toList[j]? with
    | none => rw [hb] at he; cases he
    | some b => rw [hb] at he; cases he; rfl
  len := by
    have hl : (strRow s).length = s.size := by
      unfold strRow
      rw [List.length_map, Array.length_toList]
      rfl
    rw [hl]
    rfl
  zero := by simp [Builtin.firstCells]
  get _ _ := by
    refine ⟨s.data.toList.map fun b => .int .u8 (b.toNat : Int), by simp [strRow], fun u hu => ?_, fun j e c x he hx => ?_, fun m hm => ?_⟩
    · obtain ⟨b, _, rfl⟩ := List.mem_map.1 hu
      rfl
    · unfold strRow at he
      rw [List.getElem?_map] at he
      cases hb : s.data.toList[j]? with
      | none => rw [hb] at he; cases he
      | some b =>
        rw [hb] at he
        cases he
        have hc : c = 0 := by
          have := lt_of_get hx
          simp at this
          omega
        subst hc
        cases hx
        have : ((s.data.toList.map fun b => Value.int .u8 (b.toNat : Int)).getD (j * 1 + 0) undef) = .int .u8 (b.toNat : Int) := by
          rw [List.getD_eq_getElem?_getD, List.getElem?_map, show j * 1 + 0 = j by omega, hb]
          rfl
        rw [this]
        exact .int _ _
    · have : ((s.extract 0 m).data.map fun b => Value.int .u8 (b.toNat : Int)) = ((s.data.toList.map fun b => Value.int .u8 (b.toNat : Int)).take (m * 1)).toArray := by
        apply Array.ext'
        simp [List.map_take]
      show Sem.run P (pure _) w = _
      rw [this]
      rfl
theorem srcEs_ok {z : Nat} {x : AV} {K : List (List Tree) → Option R} {r : R} (hr : srcEs h z x K = some r) (hh : HRel B κ h w) {v : Value} (hv : VRel B κ h w x v) :
    ∃ es, K es = some r ∧ Src P w (fun b => B b ∨ Ex κ h b) z es v := by
  unfold srcEs at hr
  simp only [cnd_eq] at hr
  split at hr
  · rename_i s
    obtain ⟨rfl, hK⟩ := ite_some hr
    cases hv with | t _ _ hv =>
    cases hv
    exact ⟨_, hK, .of_str s⟩
  · obtain ⟨es, h1, h2⟩ := elems_ok hr hh hv
    exact ⟨es, h1, .of_sl h2⟩
theorem acopy_ok {t t' : TypeId} {d x : AV} {K : AV → Heap → Option R} {r : R} (hr : acopy P t h d x K = some r) (hh : HRel B κ h w) {vd vx : Value} (hd : VRel B κ h w d vd) (hx : VRel B κ h w x vx) (ty : TypeId) :
    ∃ v h' val w', K v h' = some r ∧ (Builtin.copy_ #[t, t'] ty #[vd, vx]).run P w = .ok val w' ∧ VRel B κ h' w' v val ∧ HRel B κ h' w' ∧ Ext κ h w κ h' w' := by
  unfold acopy at hr
  try simp only [cnd_eq] at hr
  obtain ⟨z, hz, hr1⟩ := bind_some hr
  clear hr
  obtain ⟨e, hu, hze⟩ : ∃ e, P.underlying t = some (.slice e) ∧ szOf P e = some z := by
    unfold elemSz at hz
    split at hz
    · rename_i e hu; exact ⟨e, hu, hz⟩
    · cases hz
  obtain ⟨new, hr2, hsl⟩ := srcEs_ok (P := P) hr1 hh hx
  clear hr1
  split at hr2
  · rename_i ri ver off len
    split at hr2
    · rename_i ver' size es hri
      obtain ⟨⟨rfl, rfl⟩, hK⟩ := ite_some hr2
      cases hd with
      | sref _ _ _ _ _ _ hex hsr =>
        obtain ⟨kk, hkk⟩ := kap_some hh hri
        obtain ⟨_, hle, hm⟩ := hsr kk _ hkk hri rfl
        simp only [AObj.len] at hle
        have ho := hh.obj ri _ _ hri hkk
        have hsame : new.take len = [] → h.set ri (.row false ver' size (rowSet es off (new.take len))) = h := fun h0 => by
          rw [h0]
          apply List.ext_getElem?
          intro j
          by_cases hij : j = ri
          · rw [hij, set_new hri, hri]; simp [rowSet]
          · rw [set_old hij]
        have hnone : ∀ (base : Option Addr) (c : Nat), min new.length len = 0 → (Builtin.copy_ #[t, t'] ty #[.slice base len c, vx]).run P w = .ok (.int .i64 (min new.length len : Nat)) w := fun base c h0 => by
          have h0' : Nat.min new.length len = 0 := h0
          cases base <;> simp [Builtin.copy_, run_underlying hu, hsl.len, hsl.zero, run_szOf hze, h0, h0', goInt, storeCells]
        by_cases h0 : min new.length len = 0
        · have ht : new.take len = [] := List.eq_nil_of_length_eq_zero (by rw [List.length_take]; omega)
          rw [hsame ht] at hK
          cases kk with
          | none =>
            obtain ⟨a0, rfl⟩ := hm
            have hes : es = [] := ho
            subst hes
            obtain rfl : len = 0 := by simp at hle; omega
            exact ⟨_, _, _, _, hK, hnone _ _ h0, .t _ _ (.int _ _), hh, Ext.refl _ _ _⟩
          | some p =>
            obtain ⟨b, base⟩ := p
            obtain ⟨cap, rfl, hcap, hcs⟩ := hm
            exact ⟨_, _, _, _, hK, hnone _ _ h0, .t _ _ (.int _ _), hh, Ext.refl _ _ _⟩
        · cases kk with
          | none =>
            obtain ⟨a0, rfl⟩ := hm
            have hes : es = [] := ho
            subst hes
            simp at hle
            omega
          | some p =>
            obtain ⟨b, base⟩ := p
            obtain ⟨cap, rfl, hcap, hcs⟩ := hm
            obtain ⟨hsz0, cells, el, hcell, hcsz, hls, hct⟩ := ho
            simp only [AObj.size]
            have hn : new ≠ [] := fun e => h0 (by rw [e]; simp)
            obtain ⟨news, hnl, hn1, hnt, hfc⟩ := hsl.get hsz0 hn
            have htl : (new.take len).length = min new.length len := by rw [List.length_take]; omega
            have hnl2 : (news.take (min new.length len * size)).length = (new.take len).length * size := by
              rw [List.length_take, hnl, htl]
              have := Nat.mul_le_mul_right size (Nat.min_le_left new.length len)
              omega
            have hrow : RowCells w (fun b => B b ∨ Ex κ h b) size (new.take len) fun q => (news.take (min new.length len * size)).getD q undef := by
              refine ⟨fun j e he => hsl.sz j e (tk_get he).2, fun j e c y he hy => ?_⟩
              have hj := lt_of_get he
              have hcl : c < size := by rw [← hsl.sz j e (tk_get he).2]; exact lt_of_get hy
              have hq := Nat.mul_le_mul_right size (show j + 1 ≤ min new.length len by omega)
              rw [Nat.succ_mul] at hq
              have := hnt j e c y (tk_get he).2 hy
              simp only [List.getD] at this ⊢
              rw [List.getElem?_take_of_lt (by omega)]
              exact this
            obtain ⟨f1, f2, f3, f4, f5⟩ := rowset_ok (new := new.take len) (p := off) (vals := news.take (min new.length len * size)) hh hri hkk hcell (by omega) hnl2 hrow
            refine ⟨_, _, .int .i64 (min new.length len : Nat), _, hK, ?_, .t _ _ (.int _ _), f4, f5⟩
            have hl := hfc (min new.length len) (Nat.min_le_left _ _)
            have hst := run_storeCells_at P b (base + off * size) el (news.take (min new.length len * size)) 0 cells w hcell (by simpa using f1) (fun v hv => hn1 v (List.mem_of_mem_take hv))
            simp only [Nat.add_zero] at hst
            have hmn : Nat.min new.length len = min new.length len := rfl
            simp [Builtin.copy_, run_underlying hu, hsl.len, run_szOf hze, hmn, hl, hst, goInt, segArr]
    · cases hr2
  · cases hr2

theorem amake_ok {t : TypeId} {n c : AV} {K : AV → Heap → Option R} {r : R} (hr : amake P t h n c K = some r) (hh : HRel B κ h w) {vn vc : Value} (hn : VRel B κ h w n vn) (hc : VRel B κ h w c vc) :
    ∃ v h' κ' val w', K v h' = some r ∧ (Instr.makeSlice t vn vc).run P w = .ok val w' ∧ VRel B κ' h' w' v val ∧ HRel B κ' h' w' ∧ Ext κ h w κ' h' w' := by
  unfold amake at hr
  try simp only [cnd_eq] at hr
  obtain ⟨z, hz, hr1⟩ := bind_some hr
  clear hr
  obtain ⟨e, i, zv, hu, hi, hzv, rfl, hz0, hzs, hby⟩ := appSz_ok hz
  rw [hu] at hr1
  simp only at hr1
  obtain ⟨a, ha, hr2⟩ := bind_some hr1
  obtain ⟨b, hb, hr3⟩ := bind_some hr2
  obtain rfl := asIntK_ok ha hn
  obtain rfl := asIntK_ok hb hc
  obtain ⟨zs, i', v, hr4, hi', hv, hs, hz0', hsi, h1, hT⟩ := zeroT_ok hr3 hh
  rw [hi] at hi'
  cases hi'
  rw [hzv] at hv
  cases hv
  obtain ⟨⟨rfl, ha0, hale, hzl⟩, hK⟩ := ite_some hr4
  obtain ⟨m, rfl⟩ := Int.eq_ofNat_of_zero_le ha0
  simp only [Int.toNat_natCast] at hK
  have hbytes : (i.bytes : Int) * (m : Int) ≤ 281474976710656 := by
    have h2 : i.bytes * m ≤ 65536 * 1073741824 := Nat.mul_le_mul hby (by omega)
    have h3 : ((i.bytes * m : Nat) : Int) ≤ 281474976710656 := by omega
    rwa [Int.natCast_mul] at h3
  have hrun := run_make (P := P) w t e i zv hu hi hzv .i64 .i64 m m ha0 (Int.le_refl _) hbytes (by omega)
  simp only [Int.toNat_natCast] at hrun
  have hmade : madeCells zv.cells (m * i.size) = Builtin.zeroCells zv.cells m := by
    simp only [madeCells, Builtin.zeroCells, hzs]
  rw [hmade] at hrun
  have h5 : ∀ b', b' < w.heap.size → (w.alloc (.cells (Builtin.zeroCells zv.cells m) e)).heap[b']? = w.heap[b']? := fun b' hb' => heap_alloc_lt w _ hb'
  have x1 : Ext κ h w (κ ++ [some (w.heap.size, 0)]) (h ++ [.row false 0 i.size (List.replicate m zs)]) (w.alloc (.cells (Builtin.zeroCells zv.cells m) e)) :=
    push_ext (w' := w.alloc _) hh rfl rfl rfl (by simp) h5 fun b base e => by injection e with e; injection e with e; omega
  have hnew := heap_alloc_at w (.cells (Builtin.zeroCells zv.cells m) e)
  have hsz : (Builtin.zeroCells zv.cells m).size = m * i.size := by rw [size_zeroCells, hzs]
  have hh1 := push_hrel hh h5 x1 (fun b base e => by injection e with e; injection e with e; subst e; exact ⟨Nat.le_refl _, by simp⟩)
    (orel_row hz0 hnew (by simp [hsz]) (by
      have hrow := zero_row hs hT m
      rw [hzl] at hrow
      have h6 := rowCells_ext x1 hrow
      refine ⟨h6.1, fun j e' c y he hy => ?_⟩
      have := h6.2 j e' c y he hy
      dsimp only at this ⊢
      rw [← getD_list] at this
      rw [Nat.zero_add]
      simpa using this))
  exact ⟨_, _, _, _, _, hK, hrun, row_value (by rw [← hh.len]; exact snoc_new κ _) (snoc_new h _) hnew (by rw [hsz]; omega) (by simp) (Nat.le_refl _), hh1, x1⟩

end Ab
