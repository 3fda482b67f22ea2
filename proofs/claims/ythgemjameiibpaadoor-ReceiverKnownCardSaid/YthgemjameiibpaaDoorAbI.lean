/- Soundness: calls. -/
import Derived.Test.YthgemjameiibpaaDoorAbH
namespace Ab
open Go

variable {R : Type} {P : Program} {B : Nat → Prop} {κ : KMap} {h : Heap} {w : World}

/-! ### cells of arguments and results -/
theorem cellsRel_cons {x : AV} {xs : List AV} {v : Value} {vs : List Value} (h1 : VRel B κ h w x v) (h2 : CellsRel B κ h w xs vs.toArray) : CellsRel B κ h w (x :: xs) (v :: vs).toArray := by
  refine ⟨by simpa using h2.1, fun j y hy => ?_⟩
  cases j with
  | zero => simp at hy; subst hy; simpa using h1
  | succ j =>
    have := h2.2 j y (by simpa using hy)
    rw [getD_list] at this ⊢
    simpa using this

theorem cellsRel_uncons {x : AV} {xs : List AV} {vs : Array Value} (hc : CellsRel B κ h w (x :: xs) vs) : ∃ v rest, vs = (v :: rest).toArray ∧ VRel B κ h w x v ∧ CellsRel B κ h w xs rest.toArray := by
  obtain ⟨l⟩ := vs
  cases l with
  | nil => have := hc.1; simp at this
  | cons v rest =>
    refine ⟨v, rest, rfl, by simpa using hc.2 0 x rfl, by simpa using hc.1, fun j y hy => ?_⟩
    have := hc.2 (j + 1) y (by simpa using hy)
    have e1 : ({ toList := v :: rest } : Array Value) = (v :: rest).toArray := rfl
    rw [e1, getD_list] at this
    rw [getD_list]
    simpa using this

theorem pickCells_get (leaf : Nat → AV) (off n j : Nat) (hj : j < n) : (pickCells leaf off n)[j]? = some (leaf (off + j)) := by simp [pickCells, hj]

/-- Values laid out as cells, and built again out of other descriptions of the same cells. -/
theorem flat_ok : ∀ {ts : List TypeId} {avs : List AV} {K : List AV → Option R} {r : R} {vs : Array Value}, flatK P ts avs K = some r → CellsRel B κ h w avs vs →
    ∃ (ls : List AV) (us : List Value), K ls = some r ∧ CellsRel B κ h w ls us.toArray ∧
      ∀ (B' : Nat → Prop) (κ' : KMap) (h' : Heap) (w' : World) (leaf : Nat → AV) (off : Nat), (∀ j u, us[j]? = some u → VRel B' κ' h' w' (leaf (off + j)) u) → ∃ avs', mkVals P leaf ts off = some avs' ∧ CellsRel B' κ' h' w' avs' vs
  | [], [], K, r, vs, hr, hc => by
    have e : vs = #[] := Array.eq_empty_of_size_eq_zero hc.1
    subst e
    exact ⟨[], [], hr, ⟨rfl, fun j x hx => by simp at hx⟩, fun B' κ' h' w' leaf off _ => ⟨[], rfl, rfl, fun j x hx => by simp at hx⟩⟩
  | [], x :: avs, K, r, vs, hr, hc => by simp [flatK] at hr
  | t :: ts, [], K, r, vs, hr, hc => by simp [flatK] at hr
  | t :: ts, x :: avs, K, r, vs, hr, hc => by
    obtain ⟨v, rest, rfl, hv, hrest⟩ := cellsRel_uncons hc
    simp only [flatK, cnd_eq] at hr
    split at hr
    · rename_i ha
      split at hr
      · rename_i cs
        obtain ⟨hsz, hr1⟩ := ite_some hr
        obtain ⟨ls, us, h1, h2, h3⟩ := flat_ok hr1 hrest
        cases hv with
        | agg _ arr hs hall =>
          refine ⟨cs ++ ls, arr.toList ++ us, h1, ⟨by simpa [hs] using h2.1, fun j y hy => ?_⟩, fun B' κ' h' w' leaf off hl => ?_⟩
          · rw [getD_list]
            rcases Nat.lt_or_ge j cs.length with hj | hj
            · rw [List.getElem?_append_left hj] at hy
              have := hall j y hy
              have hj' : j < arr.toList.length := by simp [hs]; exact hj
              simp only [List.getD]
              rw [List.getElem?_append_left hj']
              have hj2 : j < arr.size := by rw [hs]; exact hj
              simp only [Array.getD, hj2, dif_pos] at this
              simpa [hj2] using this
            · rw [List.getElem?_append_right hj] at hy
              have := h2.2 _ y hy
              rw [getD_list] at this
              simp only [List.getD] at this ⊢
              rw [List.getElem?_append_right (by simp [hs]; exact hj)]
              simpa [hs] using this
          · obtain ⟨avs', e1, e2⟩ := h3 B' κ' h' w' leaf (off + cs.length) fun j u hu => by
              have := hl (cs.length + j) u (by rw [List.getElem?_append_right (by simp [hs])]; simpa [hs] using hu)
              rwa [← Nat.add_assoc] at this
            refine ⟨.agg (pickCells leaf off cs.length) :: avs', ?_, cellsRel_cons (.agg _ _ (by simp [pickCells, hs]) fun j y hy => ?_) e2⟩
            · simp only [mkVals, mkVal, ha, hsz, e1, Option.map_some]
            · have hj : j < cs.length := by
                have := lt_of_get hy
                simpa [pickCells] using this
              rw [pickCells_get leaf off _ _ hj] at hy
              cases hy
              have hj2 : j < arr.size := by rw [hs]; exact hj
              exact hl j _ (by rw [List.getElem?_append_left (by simpa using hj2)]; simp [Array.getD, hj2])
      · cases hr
    · rename_i ha
      obtain ⟨hlf, hr1⟩ := ite_some hr
      obtain ⟨ls, us, h1, h2, h3⟩ := flat_ok hr1 hrest
      refine ⟨x :: ls, v :: us, h1, cellsRel_cons hv h2, fun B' κ' h' w' leaf off hl => ?_⟩
      obtain ⟨avs', e1, e2⟩ := h3 B' κ' h' w' leaf (off + 1) fun j u hu => by
        have := hl (j + 1) u (by simpa using hu)
        rwa [show off + (j + 1) = off + 1 + j from by omega] at this
      refine ⟨leaf off :: avs', ?_, cellsRel_cons (by simpa using hl 0 v rfl) e2⟩
      cases hsz : szOf P t <;> simp only [mkVals, mkVal, ha, hsz, e1, Option.map_some]
    · cases hr

/-- How a call's value stands for the list of its results. -/
def resVal (vs : Array Value) : Value := if h : vs.size = 1 then vs[0] else .tuple vs

theorem mkRes_ok {g : FuncId} {fn : Func} (hf : P.funcs[g]? = some fn) {leaf : Nat → AV} {avs : List AV} (hm : mkVals P leaf fn.resultTypes.toList 0 = some avs) {vs : Array Value} (hc : CellsRel B κ h w avs vs) :
    ∃ r, mkRes P g leaf = some r ∧ VRel B κ h w r (resVal vs) := by
  unfold mkRes
  rw [hf]
  simp only [hm]
  cases avs with
  | nil =>
    refine ⟨_, rfl, ?_⟩
    have : ¬ vs.size = 1 := by rw [hc.1]; simp
    unfold resVal
    rw [dif_neg this]
    exact .tuple _ _ hc.1 hc.2
  | cons x rest =>
    cases rest with
    | nil =>
      refine ⟨x, rfl, ?_⟩
      have h1 : vs.size = 1 := by rw [hc.1]; simp
      unfold resVal
      rw [dif_pos h1]
      have := hc.2 0 x rfl
      simpa [Array.getD, h1] using this
    | cons y rest =>
      refine ⟨_, rfl, ?_⟩
      have : ¬ vs.size = 1 := by rw [hc.1]; simp
      unfold resVal
      rw [dif_neg this]
      exact .tuple _ _ hc.1 hc.2

/-! ### contracts -/
def Fr (ro : Option Nat) : Fence := { fn := fun _ => True, depth := none, alive := false, round := ro }

def CallOk {R : Type} (P : Program) (g : FuncId) (avs : List AV) (h : Heap) (K : List AV → Heap → Option R) (res : R) : Prop :=
  ∀ (B : Nat → Prop) (κ : KMap) (w : World) (vs : Array Value) (n : Nat), HRel B κ h w → CellsRel B κ h w avs vs →
    CallsIn (Fr none) n P g vs w fun e w' => ∃ v r κ' rs h', e = .returned v ∧ K rs h' = some res ∧ mkRes P g (fun i => rs.getD i .undef) = some r ∧ VRel B κ' h' w' r v ∧ HRel B κ' h' w' ∧ Ext κ h w κ' h' w'

structure Grow (w w' : World) : Prop where
  os : w'.os = w.os
  tape : w'.tape = w.tape
  output : w'.output = w.output
  size : w.heap.size ≤ w'.heap.size
  block : ∀ b, b < w.heap.size → w'.heap[b]? = w.heap[b]?

def PureOk (P : Program) (g : FuncId) (xs ys : List Tree) : Prop :=
  ∀ (B : Nat → Prop) (w : World) (avs : List AV) (vs : Array Value) (n : Nat), mkArgs P g (fun i => .t (xs.getD i default)) = some avs → (∀ b, B b → b < w.heap.size) → CellsRel B [] [] w avs vs →
    CallsIn (Fr none) n P g vs w fun e w' => ∃ v r, e = .returned v ∧ mkRes P g (fun i => .t (ys.getD i default)) = some r ∧ VRel B [] [] w' r v ∧ Grow w w' ∧ (scalarRes P g = true → ys.all Tree.scalar = true)

def YieldOk {R : Type} (P : Program) (i : Nat) (args : List AV) (h : Heap) (K : List AV → Heap → Option R) (res : R) : Prop :=
  ∀ (B : Nat → Prop) (κ : KMap) (w : World) (vs : Array Value) (b base n : Nat), HRel B κ h w → CellsRel B κ h w args vs → κ[i]? = some (some (b, base)) →
    ∃ (f : FuncId) (tmps : Array Value) (assign body : Code), (Instr.yield b vs).run P w = .ok (.round b f tmps assign body) w ∧
      RoundIn (Fr none) n P b f tmps assign body w fun e w' => ∃ v κ' rs h', e = .returned v ∧ K rs h' = some res ∧ VRel B κ' h' w' (rs.getD 0 .undef) v ∧ HRel B κ' h' w' ∧ Ext κ h w κ' h' w'

def RecOk (P : Program) (rec : Rec) : Prop := ∀ (R : Type) (r : Req) (h : Heap) (K : List AV → Heap → Option R) (res : R), rec R r h K = some res → match r with
  | .fn g avs => CallOk P g avs h K res
  | .yield i args => YieldOk P i args h K res
/-- A new slice. -/
def NewSl (B : Nat → Prop) (w w' : World) (s : Nat) (es : List (List Tree)) (v : Value) : Prop :=
  (es = [] ∧ ∃ a, v = .slice a 0 0) ∨ ∃ b base cap cells elem, v = .slice (some ⟨b, base, none⟩) es.length cap ∧ es.length ≤ cap ∧ w.heap.size ≤ b ∧ b < w'.heap.size ∧ s ≠ 0 ∧ w'.heap[b]? = some (.cells cells elem (0, 0)) ∧ base + cap * s ≤ cells.size ∧
    (∀ (j : Nat) (e : List Tree), es[j]? = some e → e.length = s) ∧ ∀ (j : Nat) (e : List Tree) (c : Nat) (x : Tree), es[j]? = some e → e[c]? = some x → TRel w' (fun b' => B b' ∨ b' = b) x (cells.getD (base + (j * s + c)) undef)
def OwnOk (P : Program) (g : FuncId) (xs ys : List Tree) : Prop :=
  ∀ (B : Nat → Prop) (w : World) (avs : List AV) (vs : Array Value) (n : Nat), mkArgs P g (fun i => .t (xs.getD i default)) = some avs → (∀ b, B b → b < w.heap.size) → CellsRel B [] [] w avs vs →
    CallsIn (Fr none) n P g vs w fun e w' => ∃ v s es, e = .returned v ∧ ys = [.sl s es] ∧ Grow w w' ∧ NewSl B w w' s es v
def PRecOk (P : Program) (pc : PRec) : Prop := ∀ g xs ys, pc g xs = some ys → if g < OWN then PureOk P g xs ys else OwnOk P (g - OWN) xs ys

theorem CallsIn.fr {ro : Option Nat} {n : Nat} {g : FuncId} {vs : Array Value} {Q : Ending → World → Prop} (hc : CallsIn (Fr none) n P g vs w Q) : CallsIn (Fr ro) n P g vs w Q := hc
theorem RoundIn.fr {ro : Option Nat} {n b : Nat} {g : FuncId} {vs : Array Value} {x y : Code} {Q : Ending → World → Prop} (hc : RoundIn (Fr none) n P b g vs x y w Q) : RoundIn (Fr ro) n P b g vs x y w Q := hc

theorem hrel_empty {B : Nat → Prop} {w : World} (hB : ∀ b, B b → b < w.heap.size) : HRel B [] [] w :=
  ⟨rfl, fun i j b bs bs' hi => by simp at hi, fun i b bs hi => by simp at hi, fun i b bs hi => by simp at hi, hB, fun i o k ho => by simp at ho⟩

theorem ex_empty {b : Nat} (hx : Ex [] [] b) : False := by
  obtain ⟨i, base, o, hk, _⟩ := hx
  simp at hk

theorem grow_ext {w' : World} (hh : HRel B κ h w) (g : Grow w w') : Ext κ h w κ h w' := ext_grow hh g.os g.tape g.output g.size g.block
theorem grow_hrel {w' : World} (hh : HRel B κ h w) (g : Grow w w') : HRel B κ h w' := hrel_grow hh (grow_ext hh g) g.block

/-- A row may be frozen. -/
theorem freeze1_ok (hh : HRel B κ h w) (v : AV) : HRel B κ (freeze1 h v) w ∧ Ext κ h w κ (freeze1 h v) w := by
  unfold freeze1
  split
  · rename_i i _ _ _
    split
    · rename_i f ver s es hi
      by_cases hf : f = true
      · subst hf
        have : h.set i (.row true ver s es) = h := by
          apply List.ext_getElem?
          intro j
          by_cases hij : j = i
          · rw [hij, set_new hi, hi]
          · rw [set_old hij]
        rw [this]
        exact ⟨hh, Ext.refl _ _ _⟩
      · have hf' : f = false := by simpa using hf
        subst hf'
        obtain ⟨k, hk⟩ := kap_some hh hi
        have hset : κ.set i k = κ := by
          apply List.ext_getElem?
          intro j
          by_cases hij : j = i
          · rw [hij, set_new hk, hk]
          · rw [set_old hij]
        have x : Ext κ h w κ (h.set i (.row true ver s es)) w := by
          have x' : Ext κ h w (κ.set i k) (h.set i (.row true ver s es)) w :=
            upd_ext (o' := .row true ver s es) (k' := k) (w' := w) hh hi rfl ⟨rfl, Nat.le_refl _, (fun _ => ⟨rfl, rfl⟩), (fun e => by cases e), (fun e => by cases e), rfl⟩ hk rfl rfl rfl (Nat.le_refl _) (fun _ _ _ => rfl)
              (fun b base e => .inl ⟨base, e⟩) (fun _ => ⟨rfl, fun b base _ cells elem fr hc => ⟨cells, hc, rfl⟩⟩)
          rw [hset] at x'
          exact x'
        refine ⟨?_, x⟩
        have ho := hh.obj i _ _ hi hk
        have hh' : HRel B (κ.set i k) (h.set i (.row true ver s es)) w :=
          upd_hrel hh hi hk (fun _ _ _ => rfl) (fun b base e => ⟨.inl ⟨base, e⟩, hh.lt i b base (by rw [hk, e])⟩) (by rw [hset]; exact x) (by
            rw [hset]
            cases k with
            | none => exact ho
            | some p =>
              obtain ⟨b, base⟩ := p
              obtain ⟨hz, cells, elem, hc, hs, hl, ht⟩ := ho
              exact ⟨hz, cells, elem, hc, hs, hl, fun j e c y he hy => (ht j e c y he hy).ext x⟩)
        rw [hset] at hh'
        exact hh'
    · exact ⟨hh, Ext.refl _ _ _⟩
  · exact ⟨hh, Ext.refl _ _ _⟩

theorem freezeAll_ok : ∀ (vs : List AV) {h : Heap}, HRel B κ h w → HRel B κ (freezeAll h vs) w ∧ Ext κ h w κ (freezeAll h vs) w
  | [], h, hh => ⟨hh, Ext.refl _ _ _⟩
  | v :: vs, h, hh => by
    obtain ⟨h1, x1⟩ := freeze1_ok hh v
    obtain ⟨h2, x2⟩ := freezeAll_ok vs h1
    exact ⟨h2, x1.trans x2⟩

theorem scalar_any {x : Tree} {v : Value} {A A' : Nat → Prop} {w w' : World} (hs : x.scalar = true) (ht : TRel w A x v) : TRel w' A' x v := by
  cases ht with
  | int k n => exact .int k n
  | bool b => exact .bool b
  | str s => exact .str s
  | const v _ => simp [Tree.scalar] at hs
  | mp _ _ _ _ _ _ _ _ _ => simp [Tree.scalar] at hs
  | nil _ _ _ => simp [Tree.scalar] at hs
  | sl _ _ _ _ _ _ _ _ _ _ _ _ => simp [Tree.scalar] at hs

end Ab
