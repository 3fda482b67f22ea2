/- From the readings of a call's arguments to trees, and back. -/
import Derived.Test.YthgemjameiibpaaDoorAbS
import Derived.OpenShut
import Derived.RowKit
import Derived.ChangeSame
import Derived.WideShapes
import Derived.ChangeShapes
import Derived.Deep.Slices
set_option linter.unusedVariables false
set_option linter.unusedSimpArgs false
namespace Ab
open Go

variable {P : Program} {w w' : World} {H : Type} {enc : TypeId × Value → H} {base : Nat} {held : Bool}

/-! ### types whose values are trees -/
def cover (P : Program) : List Field → Nat → Option Nat
  | [], off => some off
  | f :: fs, off => if f.offset = off then cover P fs (off + P.cellsOf f.type) else none
def okTy (P : Program) : Nat → TypeId → Bool
  | 0, _ => false
  | d + 1, t => match P.underlying t with
    | some .bool | some (.int _) | some .string => true
    | some (.slice e) => P.cellsOf e != 0 && okTy P d e
    | some (.struct fs) => cover P fs.toList 0 == some (P.cellsOf t) && fs.toList.all fun f => okTy P d f.type
    | _ => false

def TypedL (Ty : TypeId → List Tree → Prop) : List TypeId → List Tree → Prop
  | [], ts => ts = []
  | t :: l, ts => ∃ a b, ts = a ++ b ∧ Ty t a ∧ TypedL Ty l b
/-- The cells of a value of a type, as trees. -/
def Typed (P : Program) : Nat → TypeId → List Tree → Prop
  | 0, _, _ => False
  | d + 1, t, ts => match P.underlying t with
    | some .bool => ∃ b, ts = [.bool b]
    | some (.int k) => ∃ n, ts = [.int k n] ∧ (Lit.int k n).wf = true
    | some .string => ∃ s : ByteArray, ts = [.str s] ∧ s.size ≤ maxLen
    | some (.slice e) => ∃ es, ts = [.sl (P.cellsOf e) es] ∧ es.length ≤ maxLen ∧ ∀ x ∈ es, Typed P d e x
    | some (.struct fs) => TypedL (Typed P d) (fs.toList.map (·.type)) ts
    | _ => False

def Cells (w : World) (ts : List Tree) (cs : List Value) : Prop := ts.length = cs.length ∧ ∀ (j : Nat) y v, ts[j]? = some y → cs[j]? = some v → TRel w (fun _ => False) y v

theorem Cells.append {ts ts' : List Tree} {cs cs' : List Value} (h1 : Cells w ts cs) (h2 : Cells w ts' cs') : Cells w (ts ++ ts') (cs ++ cs') := by
  refine ⟨by simp [h1.1, h2.1], fun j y v hy hv => ?_⟩
  rcases Nat.lt_or_ge j ts.length with hj | hj
  · rw [List.getElem?_append_left hj] at hy
    rw [List.getElem?_append_left (by rw [← h1.1]; exact hj)] at hv
    exact h1.2 j y v hy hv
  · rw [List.getElem?_append_right hj] at hy
    rw [List.getElem?_append_right (by rw [← h1.1]; exact hj), ← h1.1] at hv
    exact h2.2 _ y v hy hv

theorem Cells.one {y : Tree} {v : Value} (h : TRel w (fun _ => False) y v) : Cells w [y] [v] := by
  refine ⟨rfl, fun j z u hz hu => ?_⟩
  cases j with
  | zero => cases hz; cases hu; exact h
  | succ j => simp at hz

theorem exists_list {α : Type} {p : Nat → α → Prop} : ∀ (len : Nat), (∀ i, i < len → ∃ x, p i x) → ∃ l : List α, l.length = len ∧ ∀ i x, l[i]? = some x → p i x
  | 0, _ => ⟨[], rfl, fun i x hx => by simp at hx⟩
  | n + 1, h => by
    obtain ⟨l, h1, h2⟩ := exists_list n fun i hi => h i (by omega)
    obtain ⟨x, hx⟩ := h n (by omega)
    refine ⟨l ++ [x], by simp [h1], fun i y hy => ?_⟩
    rcases Nat.lt_or_ge i n with hi | hi
    · rw [List.getElem?_append_left (by omega)] at hy; exact h2 i y hy
    · rw [List.getElem?_append_right (by omega)] at hy
      have := lt_of_get hy
      simp at this
      have e : i = n := by omega
      subst e
      rw [h1] at hy
      simp at hy
      subst hy
      exact hx

theorem mapM_get {α β : Type} {f : α → Option β} : ∀ {l : List α} {ys : List β}, l.mapM f = some ys → ys.length = l.length ∧ ∀ (i : Nat) x, l[i]? = some x → ∃ y, ys[i]? = some y ∧ f x = some y
  | [], ys, h => by
    simp at h
    subst h
    exact ⟨rfl, fun i x hx => by simp at hx⟩
  | a :: l, ys, h => by
    rw [List.mapM_cons] at h
    cases ha : f a with
    | none => rw [ha] at h; cases h
    | some b =>
      rw [ha] at h
      cases hl : l.mapM f with
      | none => rw [hl] at h; cases h
      | some bs =>
        rw [hl] at h
        cases h
        obtain ⟨h1, h2⟩ := mapM_get hl
        refine ⟨by simp [h1], fun i x hx => ?_⟩
        cases i with
        | zero => simp at hx; subst hx; exact ⟨b, rfl, ha⟩
        | succ i => simpa using h2 i x (by simpa using hx)

theorem mapM_congr {α β : Type} {f g : α → Option β} : ∀ {l : List α}, (∀ x ∈ l, g x = f x) → l.mapM g = l.mapM f
  | [], _ => by simp
  | a :: l, h => by
    rw [List.mapM_cons, List.mapM_cons, h a (by simp), mapM_congr fun x hx => h x (by simp [hx])]

theorem mapM_of {α β : Type} {f : α → Option β} : ∀ {l : List α} (ys : List β), ys.length = l.length → (∀ (i : Nat) x, l[i]? = some x → ∃ y, ys[i]? = some y ∧ f x = some y) → l.mapM f = some ys
  | [], [], _, _ => by simp
  | [], y :: ys, h, _ => by simp at h
  | a :: l, [], h, _ => by simp at h
  | a :: l, y :: ys, h, hf => by
    obtain ⟨z, h1, h2⟩ := hf 0 a rfl
    cases h1
    have ih := mapM_of ys (by simpa using h) fun i x hx => by simpa using hf (i + 1) x (by simpa using hx)
    rw [List.mapM_cons, h2, ih]
    rfl

theorem range_get {n i : Nat} (h : i < n) : (List.range n)[i]? = some i := by simp [h]

theorem cells_get {a : Addr} {n : Nat} {cs : List Value} (h : w.cells? base a n = some cs) : base ≤ a.block ∧ cs.length = n ∧ ∀ i v, cs[i]? = some v → w.cell? (a.add i) = some v := by
  unfold World.cells? at h
  obtain ⟨hb, h⟩ := ite_some h
  obtain ⟨h1, h2⟩ := mapM_get h
  have h1' : cs.length = n := by simpa using h1
  refine ⟨hb, h1', fun i v hv => ?_⟩
  have hi : i < n := by have := lt_of_get hv; omega
  obtain ⟨y, hy, hc⟩ := h2 i i (range_get hi)
  rw [hv] at hy
  cases hy
  exact hc

theorem cell_spot {a : Addr} {v : Value} (h : w.cell? a = some v) : a.spot = none ∧ a.block < w.heap.size := by
  unfold World.cell? at h
  split at h
  · rename_i c e f hb
    split at h
    · cases h
    · rename_i hs
      exact ⟨by simpa using hs, heap_lt hb⟩
  · cases h

theorem add_none (b o i : Nat) : (⟨b, o, none⟩ : Addr).add i = ⟨b, o + i, none⟩ := by
  simp only [Addr.add]
  split
  · rename_i h; simp [h]
  · rfl

theorem struct_cells {cs : List Value} (Ty : TypeId → List Tree → Prop) : ∀ (fs : List Field) (off m : Nat), cover P fs off = some m → m ≤ cs.length → (∀ f ∈ fs, ∃ ts, Ty f.type ts ∧ Cells w ts ((cs.drop f.offset).take (P.cellsOf f.type))) →
    off ≤ m ∧ ∃ ts, TypedL Ty (fs.map (·.type)) ts ∧ Cells w ts ((cs.drop off).take (m - off))
  | [], off, m, hc, hm, _ => by
    cases hc
    exact ⟨Nat.le_refl _, [], rfl, by simp, fun j y v hy => by simp at hy⟩
  | f :: fs, off, m, hc, hm, hall => by
    simp only [cover] at hc
    obtain ⟨ho, hc⟩ := ite_some hc
    obtain ⟨h1, ts, h2, h3⟩ := struct_cells Ty fs _ m hc hm fun g hg => hall g (by simp [hg])
    obtain ⟨ts0, h4, h5⟩ := hall f (by simp)
    refine ⟨by omega, ts0 ++ ts, ⟨ts0, ts, rfl, h4, h2⟩, ?_⟩
    have e : (cs.drop off).take (m - off) = (cs.drop f.offset).take (P.cellsOf f.type) ++ (cs.drop (off + P.cellsOf f.type)).take (m - (off + P.cellsOf f.type)) := by
      rw [ho, show m - off = P.cellsOf f.type + (m - (off + P.cellsOf f.type)) from by omega, List.take_add, List.drop_drop]
    rw [e]
    exact h5.append h3

theorem typed_of_trod {spare : Nat → Bool} : ∀ (d : Nat) {t : TypeId} {fuel : Nat} {cs : List Value} {x : DataW H × List MemPlace}, okTy P d t = true → DataW.trod enc P w base spare held fuel t cs = some x → ∃ ts, Typed P d t ts ∧ Cells w ts cs := by
  intro d
  induction d with
  | zero => intro t fuel cs x ho; cases ho
  | succ d ih =>
    intro t fuel cs x ho h
    unfold okTy at ho
    unfold Typed
    cases hu : P.underlying t with
    | none => rw [hu] at ho; cases ho
    | some u =>
      rw [hu] at ho
      cases u with
      | bool =>
        obtain ⟨b, rfl, _⟩ := DataW.trod_bool hu h
        exact ⟨_, ⟨b, rfl⟩, Cells.one (.bool b)⟩
      | int k =>
        obtain ⟨n, rfl, _, hw⟩ := DataW.trod_int hu h
        exact ⟨_, ⟨n, rfl, hw⟩, Cells.one (.int k n)⟩
      | string =>
        obtain ⟨n, rfl, _, hw⟩ := DataW.trod_string hu h
        exact ⟨_, ⟨n, rfl, hw⟩, Cells.one (.str n)⟩
      | slice e =>
        simp only [Bool.and_eq_true, bne_iff_ne, ne_eq] at ho
        rcases Go.Deep.open_slice hu h with ⟨rfl, _⟩ | ⟨a, len, cap, m, n, D, Pl, rfl, hb, hl, hm, hmm, _, hi⟩
        · exact ⟨_, ⟨[], rfl, Nat.zero_le _, fun x hx => by cases hx⟩, Cells.one (.nil _ _ _)⟩
        · have hlm : len ≤ m := by rw [hmm]; split <;> omega
          obtain ⟨es, he1, he2⟩ := exists_list (p := fun i ts => Typed P d e ts ∧ ∃ cs', w.cells? base (a.add (i * P.cellsOf e)) (P.cellsOf e) = some cs' ∧ Cells w ts cs') len fun i him => by
            obtain ⟨cs', h1, h2⟩ := hi i (by omega)
            obtain ⟨ts, h3, h4⟩ := ih ho.2 h2
            exact ⟨ts, h3, cs', h1, h4⟩
          refine ⟨_, ⟨es, rfl, by omega, fun x hx => ?_⟩, ?_⟩
          · obtain ⟨i, hi2, hx2⟩ := List.getElem_of_mem hx
            exact (he2 i x (by rw [List.getElem?_eq_getElem hi2, hx2])).1
          · cases hes : es with
            | nil =>
              rw [hes] at he1
              obtain rfl : len = 0 := he1.symm
              exact Cells.one (.nil _ _ _)
            | cons e0 es0 =>
              have hsp : a.spot = none := by
                have h0 : es[0]? = some e0 := by rw [hes]; rfl
                obtain ⟨_, cs', hc, hcl⟩ := he2 0 e0 h0
                obtain ⟨_, hlen, hget⟩ := cells_get hc
                have hcc : 0 < cs'.length := by rw [hlen]; exact Nat.pos_of_ne_zero ho.1
                have hg := hget 0 cs'[0] (List.getElem?_eq_getElem hcc)
                have := (cell_spot hg).1
                simpa [Addr.add] using this
              obtain ⟨ab, ao, asp⟩ := a
              dsimp only at hsp
              subst hsp
              have key : ∀ (j : Nat) (el : List Tree), es[j]? = some el → el.length = P.cellsOf e ∧ ∀ (c : Nat) (y : Tree), el[c]? = some y → ∃ v, w.cell? ⟨ab, ao + (j * P.cellsOf e + c), none⟩ = some v ∧ ab < w.heap.size ∧ TRel w (fun _ => False) y v := by
                intro j el hj
                obtain ⟨_, cs', hc, hcl⟩ := he2 j el hj
                obtain ⟨_, hlen, hget⟩ := cells_get hc
                refine ⟨hcl.1.trans hlen, fun c y hy => ?_⟩
                have hcc : c < cs'.length := by rw [← hcl.1]; exact lt_of_get hy
                have hg := hget c cs'[c] (List.getElem?_eq_getElem hcc)
                rw [add_none, add_none, Nat.add_assoc] at hg
                exact ⟨cs'[c], hg, (cell_spot hg).2, hcl.2 c y _ hy (List.getElem?_eq_getElem hcc)⟩
              have h0 : es[0]? = some e0 := by rw [hes]; rfl
              obtain ⟨hl0, hc0⟩ := key 0 e0 h0
              have hne : 0 < e0.length := by rw [hl0]; exact Nat.pos_of_ne_zero ho.1
              obtain ⟨v0, _, hbl, _⟩ := hc0 0 e0[0] (List.getElem?_eq_getElem hne)
              rw [← hes, ← he1]
              refine Cells.one (.sl _ es ab ao cap (fun j c => (w.cell? ⟨ab, ao + (j * P.cellsOf e + c), none⟩).getD undef) (by omega) hbl (fun hf => hf) (fun j el hj => (key j el hj).1) (fun j el c y hj hy => ?_) (fun j el c y hj hy => ?_))
              · obtain ⟨v, h1, _⟩ := (key j el hj).2 c y hy
                rw [h1]; rfl
              · obtain ⟨v, h1, _, h4⟩ := (key j el hj).2 c y hy
                rw [h1]; exact h4
      | struct fs =>
        simp only [Bool.and_eq_true, beq_iff_eq] at ho
        obtain ⟨xs, n, _, _, hlen, hxl, hf⟩ := DataW.trod_struct hu h
        obtain ⟨_, ts, h1, h2⟩ := struct_cells (w := w) (cs := cs) (Typed P d) fs.toList 0 _ ho.1 (by omega) fun f hfm => by
          obtain ⟨i, hi, he⟩ := List.getElem_of_mem hfm
          have hg : fs[i]? = some f := by rw [← Array.getElem?_toList, List.getElem?_eq_getElem hi, he]
          have := hf i f hg
          have hil : i < xs.length := by rw [hxl]; simpa using hi
          rw [List.getElem?_eq_getElem hil] at this
          exact ih (List.all_eq_true.1 ho.2 f hfm) this
        refine ⟨ts, h1, ?_⟩
        simpa [← hlen] using h2
      | _ => cases ho

/-! ### the arguments read behind the call as they did -/
theorem cells_keep {a : Addr} {n : Nat} {cs : List Value} (hk : ∀ b, b < w.heap.size → w'.heap[b]? = w.heap[b]?) (h : w.cells? base a n = some cs) : w'.cells? base a n = some cs := by
  rw [← h]
  unfold World.cells? at h ⊢
  obtain ⟨hb, h⟩ := ite_some h
  rw [if_pos hb, if_pos hb]
  obtain ⟨h1, h2⟩ := mapM_get h
  refine mapM_congr fun i hi => ?_
  have hin : i < n := by simpa using hi
  obtain ⟨y, _, hc⟩ := h2 i i (range_get hin)
  unfold World.cell? at hc ⊢
  rw [hk]
  have := cell_spot (w := w) (a := a.add i) (v := y) hc
  exact this.2

theorem trod_keep {sp : Nat → Bool} (hk : ∀ b, b < w.heap.size → w'.heap[b]? = w.heap[b]?) : ∀ (d : Nat) {t : TypeId} {fuel : Nat} {cs : List Value} {x : DataW H × List MemPlace}, okTy P d t = true → DataW.trod enc P w base (fun _ => true) held fuel t cs = some x →
    (∀ p ∈ x.2, sp p.block = true) → DataW.trod enc P w' base sp held fuel t cs = some x := by
  intro d
  induction d with
  | zero => intro t fuel cs x ho; cases ho
  | succ d ih =>
    intro t fuel cs x ho h hp
    unfold okTy at ho
    cases hu : P.underlying t with
    | none => rw [hu] at ho; cases ho
    | some u =>
      rw [hu] at ho
      cases u with
      | bool =>
        cases fuel with
        | zero => cases h
        | succ n =>
          obtain ⟨b, rfl, rfl⟩ := DataW.trod_bool hu h
          simp [DataW.trod, hu]
      | int k =>
        cases fuel with
        | zero => cases h
        | succ n =>
          obtain ⟨b, rfl, rfl, hw⟩ := DataW.trod_int hu h
          simp [DataW.trod, hu, hw]
      | string =>
        cases fuel with
        | zero => cases h
        | succ n =>
          obtain ⟨b, rfl, rfl, hw⟩ := DataW.trod_string hu h
          simp [DataW.trod, hu, hw]
      | slice e =>
        simp only [Bool.and_eq_true, bne_iff_ne, ne_eq] at ho
        rcases DataW.trod_slice hu h with ⟨rfl, rfl⟩ | ⟨a, len, cap, elems, rest, n, rfl, rfl, hx, hb, hl, hm, hel, he, hr, _⟩
        · cases fuel with
          | zero => cases h
          | succ n => simp [DataW.trod, hu]
        · obtain ⟨hrl, hr⟩ := hr rfl
          have hmem : ∀ y ∈ elems ++ rest, ∀ p ∈ y.2, sp p.block = true := fun y hy p hpy => hp p (by rw [hx]; exact List.mem_append_right _ (List.mem_flatMap.2 ⟨y, hy, hpy⟩))
          have step : ∀ (i : Nat) (y : DataW H × List MemPlace), y ∈ elems ++ rest → (w.cells? base (a.add (i * P.cellsOf e)) (P.cellsOf e)).bind (DataW.trod enc P w base (fun _ => true) held n e) = some y →
              (w'.cells? base (a.add (i * P.cellsOf e)) (P.cellsOf e)).bind (DataW.trod enc P w' base sp held n e) = some y := by
            intro i y hy hi
            obtain ⟨cs', h1, h2⟩ := bind_some hi
            rw [cells_keep hk h1]
            exact ih ho.2 h2 (hmem y hy)
          have e1 : (List.range len).mapM (fun i => (w'.cells? base (a.add (i * P.cellsOf e)) (P.cellsOf e)).bind (DataW.trod enc P w' base sp held n e)) = some elems := mapM_of elems (by simp [hel]) fun i j hij => by
            have hil : i < len := by have := lt_of_get hij; simpa using this
            have : j = i := by rw [range_get hil] at hij; cases hij; rfl
            subst this
            have hj := he j hil
            have hjl : j < elems.length := by omega
            rw [List.getElem?_eq_getElem hjl] at hj
            exact ⟨_, List.getElem?_eq_getElem hjl, step j _ (List.mem_append_left _ (List.getElem_mem hjl)) hj⟩
          have e2 : (if sp a.block = true then (List.range (cap - len)).mapM (fun j => (w'.cells? base (a.add ((len + j) * P.cellsOf e)) (P.cellsOf e)).bind (DataW.trod enc P w' base sp held n e)) else some []) = some rest := by
            by_cases hsp : sp a.block = true
            · rw [if_pos hsp]
              refine mapM_of rest (by simp [hrl]) fun i j hij => ?_
              have hil : i < cap - len := by have := lt_of_get hij; simpa using this
              have : j = i := by rw [range_get hil] at hij; cases hij; rfl
              subst this
              have hj := hr j hil
              have hjl : j < rest.length := by omega
              rw [List.getElem?_eq_getElem hjl] at hj
              exact ⟨_, List.getElem?_eq_getElem hjl, step (len + j) _ (List.mem_append_right _ (List.getElem_mem hjl)) hj⟩
            · rw [if_neg hsp]
              cases hre : rest with
              | nil => rfl
              | cons y ys =>
                exfalso
                refine hsp (hp (.cell a.block (a.off + 0)) ?_)
                rw [hx]
                refine List.mem_append_left _ (List.mem_map.2 ⟨0, List.mem_range.2 ?_, rfl⟩)
                rw [hre]
                exact Nat.mul_pos (by simp; omega) (Nat.pos_of_ne_zero ho.1)
          unfold DataW.trod
          rw [hu]
          dsimp only
          rw [if_pos ⟨hb, hl, hm⟩, e1]
          simp only [Option.bind_some]
          rw [e2, hx]
          rfl
      | struct fs =>
        simp only [Bool.and_eq_true, beq_iff_eq] at ho
        obtain ⟨xs, n, rfl, hx, hlen, hxl, hf⟩ := DataW.trod_struct hu h
        have e1 : (fs.toList.mapM fun f => DataW.trod enc P w' base sp held n f.type ((cs.drop f.offset).take (P.cellsOf f.type))) = some xs := mapM_of xs (by simpa using hxl) fun i f hif => by
          have hg : fs[i]? = some f := by rw [← Array.getElem?_toList]; exact hif
          have hil : i < xs.length := by rw [hxl]; have := lt_of_get hif; simpa using this
          have hj := hf i f hg
          rw [List.getElem?_eq_getElem hil] at hj
          refine ⟨_, List.getElem?_eq_getElem hil, ih (List.all_eq_true.1 ho.2 f (List.mem_of_getElem? hif)) hj fun p hpy => hp p ?_⟩
          rw [hx]
          exact List.mem_flatMap.2 ⟨_, List.getElem_mem hil, hpy⟩
        unfold DataW.trod
        rw [hu]
        split <;> simp_all
      | _ => cases ho

end Ab
