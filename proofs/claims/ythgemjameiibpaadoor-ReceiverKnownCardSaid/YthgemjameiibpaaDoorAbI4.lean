/- slices.Insert on a row of the abstract heap. -/
import Derived.Test.YthgemjameiibpaaDoorAbI
import Derived.Test.YthgemjameiibpaaDoorAbI2
import Derived.Test.YthgemjameiibpaaDoorAbI3
set_option linter.unusedVariables false
set_option linter.unusedSimpArgs false
namespace Ab
open Go Go.Proofs Go.Shelf
variable {P : Program} {B : Nat → Prop} {κ : KMap} {h : Heap} {w : World} {R : Type}

theorem fr_wide : Fr none = Fence.wide := rfl
theorem calls_in {n : Nat} {f : FuncId} {args : Array Value} {Q : Ending → World → Prop} (hc : Calls P f args w Q) : CallsIn (Fr none) n P f args w Q := callsIn_wide.2 hc

theorem setCells_row {b o : Nat} {cells : Array Value} {el : TypeId} (hb : w.heap[b]? = some (.cells cells el (0, 0))) (vs : List Value) (hfit : o + vs.length ≤ cells.size) (h1 : ∀ v ∈ vs, v.oneCell' = true) :
    w.setCells b o vs = w.setRow b (segArr cells o vs) := by
  have e1 := run_storeCells_cells (P := default) b o vs 0 w (fun j hj => by
    rw [cell_of_block hb (by omega)]; rfl) (fun j hj => by
    simp [World.frozen?, hb]) h1
  have e2 := run_storeCells_at default b o el vs 0 cells w hb (by simpa using hfit) h1
  rw [e1] at e2
  simp only [Nat.add_zero] at e2
  injection e2

theorem rowCells_part {A : Nat → Prop} {z : Nat} {L : List (List Tree)} {f : Nat → Value} (hL : RowCells w A z L f) (k : Nat) : RowCells w A z (L.take k) f ∧ RowCells w A z (L.drop k) fun q => f (k * z + q) := by
  refine ⟨⟨fun j e he => hL.1 j e (take_get he).2, fun j e c x he hx => hL.2 j e c x (take_get he).2 hx⟩, ⟨fun j e he => ?_, fun j e c x he hx => ?_⟩⟩
  · rw [List.getElem?_drop] at he
    exact hL.1 _ e he
  · rw [List.getElem?_drop] at he
    have := hL.2 _ e c x he hx
    rw [Nat.add_mul, Nat.add_assoc] at this
    exact this

/-- The three parts of a row into which something was put. -/
theorem rowCells_ins {A : Nat → Prop} {z k : Nat} {L M : List (List Tree)} {f m g : Nat → Value} (hL : RowCells w A z L f) (hM : RowCells w A z M m) (hk : k ≤ L.length)
    (h1 : ∀ q, q < k * z → g q = f q) (h2 : ∀ q, q < M.length * z → g (k * z + q) = m q) (h3 : ∀ q, q < (L.length - k) * z → g ((k + M.length) * z + q) = f (k * z + q)) : RowCells w A z (L.take k ++ M ++ L.drop k) g := by
  have hp := rowCells_part hL k
  have hlt : (L.take k).length = k := by rw [List.length_take]; omega
  have cong : ∀ {L : List (List Tree)} {f g : Nat → Value}, RowCells w A z L f → (∀ q, q < L.length * z → g q = f q) → RowCells w A z L g := fun {L f g} hL hfg => ⟨hL.1, fun j e c x he hx => by
    have h1 : j < L.length := (List.getElem?_eq_some_iff.1 he).1
    have hcl : c < z := by rw [← hL.1 j e he]; exact (List.getElem?_eq_some_iff.1 hx).1
    have := Nat.mul_le_mul_right z (show j + 1 ≤ L.length from h1)
    rw [Nat.succ_mul] at this
    rw [hfg _ (by omega)]
    exact hL.2 j e c x he hx⟩
  refine rowCells_append (f := g) (rowCells_append hp.1 ?_ fun q hq => by rw [hlt] at hq; exact h1 q hq) ?_ fun _ _ => rfl
  · refine cong hM fun q hq => ?_
    rw [hlt]
    exact h2 q hq
  · refine cong hp.2 fun q hq => ?_
    rw [List.length_append, hlt]
    rw [List.length_drop] at hq
    exact h3 q hq

theorem ins_row_ok {ρ : Ren} {z : Nat} (L : InsLay P ρ z) (hh : HRel B κ h w) {ri ver off len k : Nat} {es new : List (List Tree)} (hri : h[ri]? = some (.row false ver z es)) (hoff : off + len = es.length) (hk : k < len) (hnew : new ≠ []) (hle : len + new.length ≤ 1073741824)
    {vs vx : Value} (hs : VRel B κ h w (.sref ri ver off len) vs) (hx : TRel w (fun b => B b ∨ Ex κ h b) (.sl z new) vx) :
    Calls P (ρ.f 22) #[vs, .int .i64 (k : Int), vx] w fun e w' => ∃ val κ', e = .returned val ∧ VRel B κ' (h.set ri (.row false (ver + 1) z ((es.drop off).take k ++ new ++ (es.drop off).drop k))) w' (.sref ri (ver + 1) 0 (len + new.length)) val ∧
      HRel B κ' (h.set ri (.row false (ver + 1) z ((es.drop off).take k ++ new ++ (es.drop off).drop k))) w' ∧ Ext κ h w κ' (h.set ri (.row false (ver + 1) z ((es.drop off).take k ++ new ++ (es.drop off).drop k))) w' := by
  have hz0 : z ≠ 0 := Nat.pos_iff_ne_zero.1 L.pos
  have hOL : ∀ L, OLe (.row false ver z es) (.row false (ver + 1) z L) := fun L => ⟨rfl, Nat.le_succ _, (fun e => by simp [AObj.ver] at e), (fun e => by cases e), (fun e => by cases e), rfl⟩
  have hver : ∀ L, (AObj.row false ver z es).ver = (AObj.row false (ver + 1) z L).ver → ∀ {p : Prop}, p := fun L e => by simp [AObj.ver] at e
  cases hs with
  | sref _ _ _ _ _ _ hex hsr =>
  obtain ⟨kk, hkk⟩ := kap_some hh hri
  obtain ⟨_, _, hm⟩ := hsr kk _ hkk hri rfl
  have ho := hh.obj ri _ _ hri hkk
  cases kk with
  | none =>
    have hes : es = [] := ho
    subst hes
    simp at hoff
    omega
  | some p =>
  obtain ⟨b, base⟩ := p
  obtain ⟨cap, rfl, hcap', hcs⟩ := hm
  have hcap : len ≤ cap := by simp only [AObj.len] at hcap'; omega
  obtain ⟨hsz0, cells, el, hcell, hcsz, hls, hct⟩ := ho
  have hcapc := hcs cells el _ hcell
  simp only [AObj.size] at hcapc ⊢
  rw [Nat.add_mul] at hcapc
  have hdl : (es.drop off).length = len := by simp; omega
  have hold : RowCells w (fun b => B b ∨ Ex κ h b) z (es.drop off) fun q => cells.getD (base + off * z + q) undef := by
    refine ⟨fun j e' he' => hls _ e' (by rw [List.getElem?_drop] at he'; exact he'), fun j e' c y he' hy => ?_⟩
    rw [List.getElem?_drop] at he'
    have := hct _ e' c y he' hy
    rw [Nat.add_mul] at this
    dsimp only
    rw [show base + off * z + (j * z + c) = base + (off * z + j * z + c) from by omega]
    exact this
  have hbA : B b ∨ Ex κ h b := .inr ⟨ri, base, _, hkk, hri, rfl⟩
  have hpos : 0 < new.length := List.length_pos_iff.2 hnew
  have hnb : ∀ nb o m ncap, vx = .slice (some ⟨nb, o, none⟩) m ncap → nb ≠ b := fun nb o m ncap e e2 => by
    cases hx with
    | nil => exact hnew rfl
    | sl _ _ b0 o0 c0 u _ _ hA _ _ _ =>
      injection e with e3 e4 e5
      injection e3 with e3
      injection e3 with e6
      exact hA (by rw [e6, e2]; exact hbA)
  obtain ⟨nb, o, ncap, news, hvx, hnl, hnc, hn1, hnt⟩ := news_of hz0 (SlRel.of_tree hx) hnew
  have hvb := hnb _ _ _ _ hvx
  subst hvx
  have hne : es.drop off ≠ [] := fun e => by rw [e] at hdl; simp at hdl; omega
  have hmz := Nat.mul_le_mul_right z hcap
  have hslr : SlRel w (fun b => B b ∨ Ex κ h b) z (es.drop off) (.slice (some ⟨b, base + off * z, none⟩) len cap) := ⟨hold.1, _, cap, by rw [hdl], by rw [hdl]; exact hcap, .inr ⟨b, base + off * z, rfl, hh.lt ri b base hkk, fun j e c x he hx => by
    have hj : j < len := by rw [← hdl]; exact (List.getElem?_eq_some_iff.1 he).1
    have hcl : c < z := by rw [← hold.1 j e he]; exact (List.getElem?_eq_some_iff.1 hx).1
    have hq := Nat.mul_le_mul_right z (show j + 1 ≤ len from hj)
    rw [Nat.succ_mul] at hq
    exact ⟨_, cell_of_block hcell (by omega), hold.2 j e c x he hx⟩⟩⟩
  obtain ⟨b', o', cap', cs, hvs, hcl, hcc, hc1, hct'⟩ := news_of hz0 hslr hne
  injection hvs with hv1 hv2 hv3
  injection hv1 with hv1
  injection hv1 with hv4 hv5
  subst hv4 hv5
  rw [hdl] at hcl
  have hcc' : ∀ j v, cs[j]? = some v → w.cell? ⟨b, base + off * z + j, none⟩ = some v := fun j v hj => by
    have := hcc j v hj
    rwa [add_off] at this
  have hnc' : ∀ j v, news[j]? = some v → w.cell? ⟨nb, o + j, none⟩ = some v := fun j v hj => by
    have := hnc j v hj
    rwa [add_off] at this
  have hcg : ∀ q, q < len * z → cells.getD (base + off * z + q) undef = cs.getD q undef := fun q hq => by
    have h1 := hcc' q _ (getD_of_lt cs q undef (by omega))
    rw [cell_of_block hcell (by omega)] at h1
    exact Option.some.inj h1
  have hold' : RowCells w (fun b => B b ∨ Ex κ h b) z (es.drop off) fun q => cs.getD q undef := ⟨hold.1, hct'⟩
  have hnr : RowCells w (fun b => B b ∨ Ex κ h b) z new fun q => news.getD q undef := ⟨(SlRel.of_tree hx).1, hnt⟩
  have hlen2 : ((es.drop off).take k ++ new ++ (es.drop off).drop k).length = len + new.length := by
    simp only [List.length_append, List.length_take, List.length_drop]
    omega
  have hm1 : (k + new.length) * z + (len - k) * z = (len + new.length) * z := by rw [← Nat.add_mul]; congr 1; omega
  have hm2 : (k + new.length) * z = k * z + new.length * z := Nat.add_mul _ _ _
  have hm3 : (len + new.length) * z = len * z + new.length * z := Nat.add_mul _ _ _
  have hdl2 : (cs.drop (k * z)).length = (len - k) * z := by rw [List.length_drop, hcl, Nat.sub_mul]
  have hdg : ∀ q, (cs.drop (k * z)).getD q undef = cs.getD (k * z + q) undef := fun q => by simp [List.getD, List.getElem?_drop]
  by_cases hroom : len + new.length ≤ cap
  · have hmul := Nat.mul_le_mul_right z hroom
    obtain ⟨tA, kA, hsa, hkA⟩ : ∃ tA kA, w.shape? nb = some (tA, kA) ∧ kA ≠ 0 := by
      have h1 := hnc' 0 _ (getD_of_lt news 0 undef (by rw [hnl]; exact Nat.mul_pos hpos L.pos))
      cases hb0 : w.heap[nb]? with
      | none => simp [World.cell?, hb0] at h1
      | some ob =>
        cases ob with
        | cells c0 e0 f0 =>
          refine ⟨e0, c0.size, by simp [World.shape?, hb0], fun e => ?_⟩
          simp [World.cell?, hb0] at h1
          obtain ⟨h2, _⟩ := Array.getElem?_eq_some_iff.1 h1
          omega
        | _ => simp [World.cell?, hb0] at h1
    have hsb : w.shape? b = some (el, cells.size) := by simp [World.shape?, hcell]
    have key := ins_shift L b (base + off * z) len cap k nb o new.length ncap cs news w hk hpos hroom (by omega) hvb hcl hnl hcc'
      (fun j hj => by rw [cell_of_block hcell (by omega)]; rfl) (fun j => by simp [World.frozen?, hcell]) hnc' hc1 hn1 tA el kA cells.size hsa hsb hkA
    refine key.mono ?_
    rintro e w' ⟨rfl, rfl⟩
    have hf1 : base + off * z + (k + new.length) * z + (cs.drop (k * z)).length ≤ cells.size := by omega
    have hs1 := segArr_size cells _ _ hf1
    have hf2 : base + off * z + k * z + news.length ≤ (segArr cells (base + off * z + (k + new.length) * z) (cs.drop (k * z))).size := by rw [hs1]; omega
    have hs2 := segArr_size _ _ _ hf2
    have e1 : w.drew.setCells b (base + off * z + (k + new.length) * z) (cs.drop (k * z)) = w.drew.setRow b (segArr cells (base + off * z + (k + new.length) * z) (cs.drop (k * z))) := setCells_row (w := w.drew) hcell _ hf1 fun v hv => hc1 v (List.mem_of_mem_drop hv)
    have hr1 := setRow_heap w.drew b cells (segArr cells (base + off * z + (k + new.length) * z) (cs.drop (k * z))) el _ hcell
    rw [e1, setCells_row hr1 news hf2 hn1]
    have hr2 := setRow_heap _ b _ (segArr (segArr cells (base + off * z + (k + new.length) * z) (cs.drop (k * z))) (base + off * z + k * z) news) el _ hr1
    generalize hW : (w.drew.setRow b (segArr cells (base + off * z + (k + new.length) * z) (cs.drop (k * z)))).setRow b (segArr (segArr cells (base + off * z + (k + new.length) * z) (cs.drop (k * z))) (base + off * z + k * z) news) = W at hr2 ⊢
    have h5 : ∀ b', b' < w.heap.size → (∀ base', (some (b, base) : Option (Nat × Nat)) ≠ some (b', base')) → W.heap[b']? = w.heap[b']? := fun b' _ hb' => by
      have hbn : b' ≠ b := fun e => hb' base (by rw [e])
      rw [← hW, setRow_other _ b _ hbn, setRow_other _ b _ hbn]
      rfl
    have hsz : W.heap.size = w.heap.size := by rw [← hW, setRow_size, setRow_size]; rfl
    have x1 : Ext κ h w (κ.set ri (some (b, base + off * z))) (h.set ri (.row false (ver + 1) z ((es.drop off).take k ++ new ++ (es.drop off).drop k))) W :=
      upd_ext (w' := W) hh hri rfl (hOL _) hkk (by rw [← hW]; rfl) (by rw [← hW]; rfl) (by rw [← hW]; rfl) (by rw [hsz]; exact Nat.le_refl _) h5 (fun b' base' e => by injection e with e; injection e with e1 e2; subst e1; exact .inl ⟨base, rfl⟩) (fun e => hver _ e)
    have hh1 := upd_hrel hh hri hkk h5 (fun b' base' e => by injection e with e; injection e with e1 e2; subst e1; exact ⟨.inl ⟨base, rfl⟩, by rw [hsz]; exact hh.lt ri _ base hkk⟩) x1
      (orel_row hz0 hr2 (by rw [hlen2, hs2, hs1]; omega) (rowCells_ext x1 (rowCells_ins hold' hnr (by omega) (fun q hq => by
        have hqk : q < len * z := Nat.lt_of_lt_of_le hq (Nat.mul_le_mul_right z (by omega))
        rw [segArr_get _ _ _ hf2, if_neg (by omega), segArr_get _ _ _ hf1, if_neg (by omega), hcg q hqk]) (fun q hq => by
        rw [segArr_get _ _ _ hf2, if_pos ⟨by omega, by omega⟩]
        congr 1
        omega) (fun q hq => by
        rw [hdl] at hq
        rw [segArr_get _ _ _ hf2, if_neg (by omega), segArr_get _ _ _ hf1, if_pos ⟨by omega, by omega⟩, ← hdg]
        congr 1
        omega))))
    exact ⟨_, _, rfl, row_value (set_new hkk) (set_new hri) hr2 (by rw [hs2, hs1]; omega) hlen2 hroom, hh1, x1⟩
  · have hbig : (len + new.length) * 65536 ≤ 140737488355328 := Nat.le_trans (Nat.mul_le_mul_right _ hle) (by omega)
    obtain ⟨ROW, G, hG, hRs, hR, key⟩ := ins_grow L b (base + off * z) len cap k nb o new.length ncap cs news w hk hpos hcap (by omega) hbig hcl hnl hcc' hnc' hc1 hn1
    refine key.mono ?_
    rintro e w' ⟨rfl, rfl⟩
    have hGz := Nat.mul_le_mul_right z hG
    have ha : (w.alloc (.cells ROW (ρ.t 9))).drew.heap[w.heap.size]? = some (.cells ROW (ρ.t 9) (0, 0)) := heap_alloc_at w _
    have hf1 : k * z + news.length ≤ ROW.size := by omega
    have hs1 := segArr_size ROW _ _ hf1
    have hf2 : (k + new.length) * z + (cs.drop (k * z)).length ≤ (segArr ROW (k * z) news).size := by rw [hs1]; omega
    have hs2 := segArr_size _ _ _ hf2
    have hr1 := setRow_heap (w.alloc (.cells ROW (ρ.t 9))).drew w.heap.size ROW (segArr ROW (k * z) news) (ρ.t 9) _ ha
    have hr1' : (((w.alloc (.cells ROW (ρ.t 9))).drew.setRow w.heap.size (segArr ROW (k * z) news)).drew).heap[w.heap.size]? = some (.cells (segArr ROW (k * z) news) (ρ.t 9) (0, 0)) := hr1
    rw [setCells_row ha news hf1 hn1, setCells_row hr1' _ hf2 fun v hv => hc1 v (List.mem_of_mem_drop hv)]
    have hr2 := setRow_heap _ w.heap.size _ (segArr (segArr ROW (k * z) news) ((k + new.length) * z) (cs.drop (k * z))) (ρ.t 9) _ hr1'
    generalize hW : (((w.alloc (.cells ROW (ρ.t 9))).drew.setRow w.heap.size (segArr ROW (k * z) news)).drew).setRow w.heap.size (segArr (segArr ROW (k * z) news) ((k + new.length) * z) (cs.drop (k * z))) = W at hr2 ⊢
    have h5 : ∀ b', b' < w.heap.size → W.heap[b']? = w.heap[b']? := fun b' hb' => by
      rw [← hW, setRow_other _ _ _ (by omega)]
      show ((w.alloc (.cells ROW (ρ.t 9))).drew.setRow w.heap.size (segArr ROW (k * z) news)).heap[b']? = _
      rw [setRow_other _ _ _ (by omega)]
      exact heap_alloc_lt w _ hb'
    have hsz : W.heap.size = w.heap.size + 1 := by
      rw [← hW, setRow_size]
      show ((w.alloc (.cells ROW (ρ.t 9))).drew.setRow w.heap.size (segArr ROW (k * z) news)).heap.size = _
      rw [setRow_size]
      simp
    have x1 : Ext κ h w (κ.set ri (some (w.heap.size, 0))) (h.set ri (.row false (ver + 1) z ((es.drop off).take k ++ new ++ (es.drop off).drop k))) W :=
      upd_ext (w' := W) hh hri rfl (hOL _) hkk (by rw [← hW]; rfl) (by rw [← hW]; rfl) (by rw [← hW]; rfl) (by omega) (fun b' hb' _ => h5 b' hb') (fun b' base' e => by injection e with e; injection e with e; exact .inr (by omega)) (fun e => hver _ e)
    have hh1 := upd_hrel hh hri hkk (fun b' hb' _ => h5 b' hb') (fun b' base' e => by injection e with e; injection e with e; subst e; exact ⟨.inr (Nat.le_refl _), by omega⟩) x1
      (orel_row hz0 hr2 (by rw [hlen2, hs2, hs1]; omega) (rowCells_ext x1 (rowCells_ins hold' hnr (by omega) (fun q hq => by
        rw [Nat.zero_add, segArr_get _ _ _ hf2, if_neg (by omega), segArr_get _ _ _ hf1, if_neg (by omega)]
        have := hR q hq
        simp only [Array.getD_eq_getD_getElem?, List.getD_eq_getElem?_getD, this]) (fun q hq => by
        rw [Nat.zero_add, segArr_get _ _ _ hf2, if_neg (by omega), segArr_get _ _ _ hf1, if_pos ⟨by omega, by omega⟩]
        congr 1
        omega) (fun q hq => by
        rw [hdl] at hq
        rw [Nat.zero_add, segArr_get _ _ _ hf2, if_pos ⟨by omega, by omega⟩, ← hdg]
        congr 1
        omega))))
    exact ⟨_, _, rfl, row_value (set_new hkk) (set_new hri) hr2 (by rw [hs2, hs1]; omega) hlen2 hG, hh1, x1⟩
end Ab
