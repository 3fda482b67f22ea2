/- Soundness of the abstract operations that build values and memory. -/
import Derived.Test.YthgemjameiibpaaDoorAbC
import Derived.Laws.Tables
import Derived.Laws.CopyRow
namespace Ab
open Go

variable {R : Type} {P : Program} {B : Nat → Prop} {κ : KMap} {h : Heap} {w : World}

def CellsRel (B : Nat → Prop) (κ : KMap) (h : Heap) (w : World) (cs : List AV) (arr : Array Value) : Prop :=
  arr.size = cs.length ∧ ∀ j x, cs[j]? = some x → VRel B κ h w x (arr.getD j undef)

theorem leaf_one {x : AV} {v : Value} (hl : x.leaf = true) (hv : VRel B κ h w x v) : v.oneCell' = true := by
  cases hv <;> first | rfl | assumption | (simp [AV.leaf] at hl; done) | skip
  · exact TRel.one (by assumption)
  · have hp : ∃ p, v = .pointer (some p) := by assumption
    obtain ⟨p, rfl⟩ := hp
    rfl

theorem one_cells {v : Value} (h1 : v.oneCell' = true) : v.cells = #[v] := by
  cases v <;> first | rfl | (simp [Value.oneCell'] at h1; done)

theorem cells_ok {v : AV} {vs : List AV} {val : Value} (hc : v.cells = some vs) (hv : VRel B κ h w v val) : CellsRel B κ h w vs val.cells := by
  by_cases hl : v.leaf = true
  · have h1 := leaf_one hl hv
    rw [one_cells h1]
    have : vs = [v] := by
      cases v <;> simp_all [AV.cells, AV.leaf]
    subst this
    refine ⟨rfl, fun j x hx => ?_⟩
    cases j with
    | zero => simp at hx; subst hx; simpa using hv
    | succ j => simp at hx
  · cases v with
    | agg cs =>
      simp [AV.cells] at hc
      subst hc
      cases hv with
      | agg _ vs h1 h2 => exact ⟨h1, h2⟩
    | undef => simp [AV.cells] at hc
    | tuple _ => simp [AV.cells] at hc
    | _ => simp [AV.leaf] at hl

theorem foldl_set (off : Nat) : ∀ (l : List Value) (s : Nat) (arr : Array Value),
    let arr' := (l.zipIdx s).foldl (fun (cs : Array Value) (p : Value × Nat) => cs.setIfInBounds (off + p.2) p.1) arr
    arr'.size = arr.size ∧ ∀ k, arr'.getD k undef = if off + s ≤ k ∧ k < off + s + l.length ∧ k < arr.size then l.getD (k - (off + s)) undef else arr.getD k undef
  | [], s, arr => by
    refine ⟨rfl, fun k => ?_⟩
    rw [if_neg (by simp; omega)]
    rfl
  | v :: l, s, arr => by
    have ih := foldl_set off l (s + 1) (arr.setIfInBounds (off + s) v)
    simp only [List.zipIdx_cons, List.foldl_cons]
    simp only at ih
    refine ⟨by rw [ih.1]; simp, fun k => ?_⟩
    rw [ih.2 k]
    simp only [Array.size_setIfInBounds, List.length_cons]
    by_cases h1 : off + (s + 1) ≤ k ∧ k < off + (s + 1) + l.length ∧ k < arr.size
    · rw [if_pos h1, if_pos ⟨by omega, by omega, h1.2.2⟩]
      rw [show k - (off + s) = (k - (off + (s + 1))) + 1 from by omega]
      rfl
    · rw [if_neg h1]
      by_cases h2 : k = off + s ∧ k < arr.size
      · obtain ⟨rfl, h3⟩ := h2
        rw [if_pos ⟨by omega, by omega, h3⟩]
        simp [Array.getD, h3]
      · by_cases h3 : k = off + s
        · rw [if_neg (by omega)]
          have h4 : arr.size ≤ off + s := by omega
          subst h3
          simp [Array.getD, Nat.not_lt.2 h4]
        · rw [if_neg (by omega)]
          by_cases h4 : k < arr.size
          · simp [Array.getD, h4, Ne.symm h3]
          · simp [Array.getD, h4]

theorem setAt_get (cs vs : List AV) (off : Nat) (hle : off + vs.length ≤ cs.length) : (setAt cs off vs).length = cs.length ∧ ∀ j, (setAt cs off vs)[j]? = if off ≤ j ∧ j < off + vs.length then vs[j - off]? else cs[j]? := by
  constructor
  · simp [setAt]; omega
  · intro j
    unfold setAt
    by_cases h1 : j < off
    · rw [List.getElem?_append_left (by simp; omega), List.getElem?_take_of_lt h1, if_neg (by omega)]
    · rw [List.getElem?_append_right (by simp; omega)]
      have hl : (cs.take off).length = off := by simp; omega
      rw [hl]
      by_cases h2 : j < off + vs.length
      · rw [List.getElem?_append_left (by omega), if_pos ⟨by omega, h2⟩]
      · rw [List.getElem?_append_right (by omega), List.getElem?_drop, if_neg (by omega)]
        congr 1
        omega

theorem setAt_ok {cs vs : List AV} {arr a : Array Value} {off : Nat} (h1 : CellsRel B κ h w cs arr) (h2 : CellsRel B κ h w vs a) (hle : off + vs.length ≤ cs.length) :
    CellsRel B κ h w (setAt cs off vs) (a.zipIdx.foldl (fun (cs : Array Value) (p : Value × Nat) => cs.setIfInBounds (off + p.2) p.1) arr) := by
  have hz : a.zipIdx.foldl (fun (cs : Array Value) (p : Value × Nat) => cs.setIfInBounds (off + p.2) p.1) arr = (a.toList.zipIdx 0).foldl (fun (cs : Array Value) (p : Value × Nat) => cs.setIfInBounds (off + p.2) p.1) arr := by
    rw [← Array.foldl_toList]
    congr 1
    simp
  rw [hz]
  obtain ⟨f1, f2⟩ := foldl_set off a.toList 0 arr
  obtain ⟨s1, s2⟩ := setAt_get cs vs off hle
  refine ⟨by rw [f1, s1, h1.1], fun j x hx => ?_⟩
  rw [f2 j]
  rw [s2 j] at hx
  have ha : a.toList.length = vs.length := by simp [h2.1]
  by_cases hj : off ≤ j ∧ j < off + vs.length
  · rw [if_pos hj] at hx
    rw [if_pos ⟨by omega, by omega, by rw [h1.1]; omega⟩]
    have := h2.2 _ x hx
    simp only [Nat.add_zero]
    have hlt : j - off < a.size := by rw [h2.1]; omega
    rw [show a.toList.getD (j - off) undef = a.getD (j - off) undef from by simp [Array.getD, List.getD, hlt]]
    exact this
  · rw [if_neg hj] at hx
    rw [if_neg (by omega)]
    exact h1.2 j x hx

theorem fill_ok {place : Nat → Option (Nat × Nat)} : ∀ {parts : List (Nat × AV)} {cs out : List AV} {arr : Array Value} {vparts : List (Nat × Value)}, fillCells place cs parts = some out → CellsRel B κ h w cs arr →
    vparts.length = parts.length → (∀ (j i : Nat) (x : AV), parts[j]? = some (i, x) → ∃ v, vparts[j]? = some (i, v) ∧ VRel B κ h w x v) → ∃ arr', Instr.fill place arr vparts = some arr' ∧ CellsRel B κ h w out arr'
  | [], cs, out, arr, vparts, hf, hc, hl, hp => by
    simp only [fillCells, Option.some.injEq] at hf
    subst hf
    obtain rfl : vparts = [] := List.eq_nil_of_length_eq_zero (by simpa using hl)
    exact ⟨arr, rfl, hc⟩
  | (i, x) :: rest, cs, out, arr, vparts, hf, hc, hl, hp => by
    cases vparts with
    | nil => simp at hl
    | cons q vrest =>
      obtain ⟨v, hv1, hv2⟩ := hp 0 i x rfl
      simp only [List.getElem?_cons_zero, Option.some.injEq] at hv1
      subst hv1
      simp only [fillCells] at hf
      split at hf
      · rename_i off size vs hpl hcs
        obtain ⟨⟨h1, h2⟩, hf2⟩ := ite_some hf
        have hcv := cells_ok hcs hv2
        have hset := setAt_ok (off := off) hc hcv (by omega)
        obtain ⟨arr', ha, hb⟩ := fill_ok (vparts := vrest) hf2 hset (by simpa using hl) fun j i' x' hx' => hp (j + 1) i' x' (by simpa using hx')
        refine ⟨arr', ?_, hb⟩
        simp only [Instr.fill, hpl]
        have e1 : v.cells.size = size := by rw [hcv.1]; exact h1
        have e2 : ¬ (off + v.cells.size > arr.size) := by rw [e1, hc.1]; omega
        simp only [e1, ne_eq, not_true_eq_false, decide_false, Bool.false_or]
        rw [if_neg (by rw [e1] at e2; simpa using e2)]
        exact ha
      · cases hf

theorem fill_len {place : Nat → Option (Nat × Nat)} : ∀ {parts : List (Nat × AV)} {cs out : List AV}, fillCells place cs parts = some out → out.length = cs.length
  | [], cs, out, hf => by simp only [fillCells, Option.some.injEq] at hf; rw [hf]
  | (i, x) :: rest, cs, out, hf => by
    simp only [fillCells] at hf
    split at hf
    · obtain ⟨⟨h1, h2⟩, hf2⟩ := ite_some hf
      rw [fill_len hf2, (setAt_get _ _ _ (by omega)).1]
    · cases hf

theorem zeroCells_ok {t : TypeId} {z : List AV} (hz : zeroCells? P t = some z) : ∃ i v, P.info? t = some i ∧ i.zero = some v ∧ CellsRel B κ h w z v.cells := by
  unfold zeroCells? at hz
  cases hi : P.info? t with
  | none => simp [hi] at hz
  | some i =>
    simp only [hi, Option.bind_some] at hz
    split at hz
    · rename_i v hv
      exact ⟨i, v, rfl, hv, cells_ok hz (ofConst_ok v)⟩
    · cases hz

theorem abuild_ok {t : TypeId} {parts : List (Nat × AV)} {K : AV → Option R} {r : R} (hr : abuild P t parts K = some r) {vparts : Array (Nat × Value)} (hl : vparts.size = parts.length)
    (hp : ∀ (j i : Nat) (x : AV), parts[j]? = some (i, x) → ∃ v, vparts.toList[j]? = some (i, v) ∧ VRel B κ h w x v) :
    ∃ v val, K v = some r ∧ (Instr.build t vparts).run P w = .ok val w ∧ VRel B κ h w v val := by
  unfold abuild at hr
  split at hr
  · rename_i fs hu
    split at hr
    · rename_i places hpl
      obtain ⟨z, hz, hr1⟩ := bind_some hr
      obtain ⟨cs, hcs, hr2⟩ := bind_some hr1
      obtain ⟨i, v, hi, hv, hc⟩ := zeroCells_ok (B := B) (κ := κ) (h := h) (w := w) hz
      obtain ⟨arr', hf, hc'⟩ := fill_ok (vparts := vparts.toList) hcs hc (by simpa using hl) hp
      refine ⟨_, .agg arr', hr2, run_build w t vparts arr' ?_, .agg _ _ hc'.1 hc'.2⟩
      unfold Program.built
      simp only [hi, hu, hv, hpl]
      simpa using hf
    · cases hr
  · rename_i n e hu
    obtain ⟨s, hs, hr0⟩ := bind_some hr
    obtain ⟨z, hz, hr1⟩ := bind_some hr0
    obtain ⟨cs, hcs, hr2⟩ := bind_some hr1
    obtain ⟨i, v, hi, hv, hc⟩ := zeroCells_ok (B := B) (κ := κ) (h := h) (w := w) hz
    obtain ⟨arr', hf, hc'⟩ := fill_ok (vparts := vparts.toList) hcs hc (by simpa using hl) hp
    refine ⟨_, .agg arr', hr2, run_build w t vparts arr' ?_, .agg _ _ hc'.1 hc'.2⟩
    unfold Program.built
    unfold szOf at hs
    cases hie : P.info? e with
    | none => simp [hie] at hs
    | some ie =>
      simp only [hie, Option.map_some, Option.some.injEq] at hs
      simp only [hi, hu, hv, hie]
      rw [hs]
      exact hf
  · cases hr

/-! ### new blocks -/
theorem heap_alloc_lt (w : World) (o : Obj) {b : Nat} (hb : b < w.heap.size) : (w.alloc o).heap[b]? = w.heap[b]? := by
  show (w.heap.push o)[b]? = w.heap[b]?
  rw [Array.getElem?_push, if_neg (Nat.ne_of_lt hb)]

theorem heap_alloc_at (w : World) (o : Obj) : (w.alloc o).heap[w.heap.size]? = some o := by
  show (w.heap.push o)[w.heap.size]? = some o
  rw [Array.getElem?_push, if_pos rfl]

/-- What no abstract object holds may grow. -/
theorem ext_grow (hh : HRel B κ h w) {w' : World} (h1 : w'.os = w.os) (h2 : w'.tape = w.tape) (h3 : w'.output = w.output) (h4 : w.heap.size ≤ w'.heap.size) (h5 : ∀ b, b < w.heap.size → w'.heap[b]? = w.heap[b]?) :
    Ext κ h w κ h w' :=
  ⟨h1, h2, h3, h4, fun b hb _ => h5 b hb, fun b hb => .inl hb, fun i o ho => ⟨o, ho, .refl o⟩, fun _ _ _ _ _ _ => rfl, fun i o o' ho ho' hv b base hk cells elem fr hc => ⟨cells, by rw [← h5 b (hh.lt i b base hk)]; exact hc, rfl⟩⟩

theorem hrel_grow (hh : HRel B κ h w) {w' : World} (x : Ext κ h w κ h w') (h5 : ∀ b, b < w.heap.size → w'.heap[b]? = w.heap[b]?) : HRel B κ h w' :=
  ⟨hh.len, hh.inj, hh.notB, fun i b bs hk => Nat.lt_of_lt_of_le (hh.lt i b bs hk) x.size, fun b hb => Nat.lt_of_lt_of_le (hh.ltB b hb) x.size,
   fun i o k ho hk => (hh.obj i o k ho hk).ext x fun b base e => h5 b (by subst e; exact hh.lt i b base hk)⟩

theorem ext_alloc (hh : HRel B κ h w) (o : Obj) : Ext κ h w κ h (w.alloc o) :=
  ext_grow hh rfl rfl rfl (by simp) fun _ hb => heap_alloc_lt w o hb
theorem hrel_alloc (hh : HRel B κ h w) (o : Obj) : HRel B κ h (w.alloc o) := hrel_grow hh (ext_alloc hh o) fun _ hb => heap_alloc_lt w o hb

theorem not_new (hh : HRel B κ h w) : ¬ (B w.heap.size ∨ Ex κ h w.heap.size) := by
  rintro (hb | ⟨i, base, o, hk, _, _⟩)
  · have := hh.ltB _ hb; omega
  · have := hh.lt i _ _ hk; omega

theorem chunk_get (s : Nat) : ∀ (n : Nat) (xs : List Tree) (j : Nat) (e : List Tree), (chunk s n xs)[j]? = some e → j < n ∧ e = (xs.drop (j * s)).take s
  | 0, xs, j, e, he => by simp [chunk] at he
  | n + 1, xs, j, e, he => by
    cases j with
    | zero => simp [chunk] at he; exact ⟨by omega, by simp [he]⟩
    | succ j =>
      simp only [chunk, List.getElem?_cons_succ] at he
      obtain ⟨h1, h2⟩ := chunk_get s n (xs.drop s) j e he
      exact ⟨by omega, by rw [h2, List.drop_drop]; congr 2; rw [Nat.succ_mul]; omega⟩
theorem chunk_len (s : Nat) : ∀ (n : Nat) (xs : List Tree), (chunk s n xs).length = n
  | 0, xs => rfl
  | n + 1, xs => by simp [chunk, chunk_len s n]

theorem flatten_rep_len {α : Type} (z : List α) : ∀ n, (List.replicate n z).flatten.length = n * z.length
  | 0 => by simp
  | n + 1 => by simp [List.replicate_succ, Nat.succ_mul, Nat.add_comm]
theorem flatten_rep_get {α : Type} (z : List α) : ∀ (n j : Nat), j < n * z.length → (List.replicate n z).flatten[j]? = z[j % z.length]?
  | 0, j, hj => by simp at hj
  | n + 1, j, hj => by
    rw [List.replicate_succ, List.flatten_cons]
    by_cases h1 : j < z.length
    · rw [List.getElem?_append_left h1, Nat.mod_eq_of_lt h1]
    · have h2 : z.length ≤ j := by omega
      rw [List.getElem?_append_right h2, flatten_rep_get z n (j - z.length) (by rw [Nat.succ_mul] at hj; omega), ← Nat.mod_eq_sub_mod h2]

theorem bsl_rel {s len : Nat} {xs : List Tree} {a : Option Addr} {w' : World} (hv : len ≠ 0 → VRel B κ h w' (.t (.sl s (chunk s len xs))) (.slice a len len)) : VRel B κ h w' (bslV s len xs) (.slice a len len) := by
  unfold bslV
  split
  · rename_i h0; subst h0; exact .nilsl a
  · rename_i h0; exact hv h0

theorem abuildSlice_ok {t : TypeId} {len : Nat} {parts : List (Nat × AV)} {K : AV → Option R} {r : R} (hr : abuildSlice P t h len parts K = some r) {vparts : Array (Nat × Value)} (hl : vparts.size = parts.length)
    (hp : ∀ (j i : Nat) (x : AV), parts[j]? = some (i, x) → ∃ v, vparts.toList[j]? = some (i, v) ∧ VRel B κ h w x v) (hh : HRel B κ h w) :
    ∃ v val w', K v = some r ∧ (Instr.buildSlice t len vparts).run P w = .ok val w' ∧ VRel B κ h w' v val ∧ HRel B κ h w' ∧ Ext κ h w κ h w' := by
  unfold abuildSlice at hr
  try simp only [cnd_eq] at hr
  split at hr
  · rename_i e hu
    obtain ⟨s, hs, hr0⟩ := bind_some hr
    obtain ⟨z, hz, hr1⟩ := bind_some hr0
    obtain ⟨⟨hzl, hs0, hle⟩, hr2⟩ := ite_some hr1
    obtain ⟨cs, hcs, hr3⟩ := bind_some hr2
    obtain ⟨i, v, hi, hv, hc⟩ := zeroCells_ok (B := B) (κ := κ) (h := h) (w := w) hz
    have hvs : v.cells.size = s := by rw [hc.1]; exact hzl
    have hc0 : CellsRel B κ h w (List.replicate len z).flatten ((Array.range (len * s)).map (v.cells[· % v.cells.size]!)) := by
      refine ⟨by rw [flatten_rep_len, hzl]; simp, fun j x hx => ?_⟩
      have hj : j < len * s := by
        have := (List.getElem?_eq_some_iff.1 hx).1
        rw [flatten_rep_len, hzl] at this
        exact this
      rw [flatten_rep_get z len j (by rw [hzl]; exact hj)] at hx
      have h1 := hc.2 _ x hx
      have h2 : j % z.length < v.cells.size := by rw [hvs, hzl]; exact Nat.mod_lt _ (by omega)
      have h3 : ((Array.range (len * s)).map (v.cells[· % v.cells.size]!)).getD j undef = v.cells.getD (j % z.length) undef := by
        have h4 : j % v.cells.size < v.cells.size := by rw [hvs]; exact Nat.mod_lt _ (by omega)
        simp [Array.getD, hj, hzl, hvs, Nat.mod_lt _ (Nat.pos_of_ne_zero hs0)]
      rw [h3]
      exact h1
    obtain ⟨arr', hf, hc'⟩ := fill_ok (vparts := vparts.toList) hcs hc0 (by simpa using hl) hp
    have hcsl : cs.length = len * s := by rw [fill_len hcs, flatten_rep_len, hzl]
    obtain ⟨xs, hr4, hxl, _, hxt⟩ := convs_ok (vs := arr'.toList) hr3 hh (by simp [hc'.1]) fun j x u hx hu => by
      have h1 := hc'.2 j x hx
      have h2 : arr'.getD j undef = u := getD_arr arr'.toList j undef hu
      rw [h2] at h1
      exact h1
    have hsz : arr'.size = len * s := by rw [hc'.1, hcsl]
    refine ⟨_, .slice (some ⟨w.heap.size, 0, none⟩) len len, w.alloc (.cells arr' e), hr4, ?_, bsl_rel fun _ => .t _ _ ?_, hrel_alloc hh _, ext_alloc hh _⟩
    · have hz1 : ¬ (len * s > 2 ^ 24) := by omega
      have hzr : (if len * s = 0 then (pure #[] : Sem (Array Value)) else do pure (← zeroValue e).cells).run P w = .ok (if len * s = 0 then #[] else v.cells) w := by
        split <;> simp [zeroValue, typeInfo, hi, hv]
      have hf2 : Instr.fill (fun i => some (i * s, s)) ((Array.range (len * s)).map ((if len * s = 0 then #[] else v.cells)[· % (if len * s = 0 then #[] else v.cells).size]!)) vparts.toList = some arr' := by
        by_cases h0 : len * s = 0
        · rw [if_pos h0]
          rw [h0] at hf ⊢
          have e0 : Array.range 0 = #[] := rfl
          rw [e0] at hf ⊢
          simpa using hf
        · rw [if_neg h0]; exact hf
      simp only [Instr.buildSlice, Sem.run_bind, run_underlying hu, run_szOf hs, Result.andThen_ok, Sem.run_ite, if_neg hz1, Sem.run_pure]
      by_cases h0 : len * s = 0
      · rw [if_pos h0] at hf2 ⊢
        simp only [hf2]
        rfl
      · rw [if_neg h0] at hf2 ⊢
        simp only [zeroValue, typeInfo, Sem.run_bind, run_program, Result.andThen_ok, hi, hv, Sem.run_pure, hf2]
        rfl
    · have hcl := chunk_len s len xs
      have hnew : (w.alloc (.cells arr' e)).heap.size = w.heap.size + 1 := by simp
      have hA : ¬ (B w.heap.size ∨ Ex κ h w.heap.size) := not_new hh
      have hel : ∀ (j : Nat) (e' : List Tree), (chunk s len xs)[j]? = some e' → e'.length = s := fun j e' he' => by
        obtain ⟨h1, h2⟩ := chunk_get s len xs j e' he'
        rw [h2]
        have : (j + 1) * s ≤ len * s := Nat.mul_le_mul_right _ h1
        rw [Nat.succ_mul] at this
        simp; omega
      have hget : ∀ (j : Nat) (e' : List Tree) (c : Nat) (x : Tree), (chunk s len xs)[j]? = some e' → e'[c]? = some x → xs[j * s + c]? = some x := fun j e' c x he' hx => by
        obtain ⟨h1, h2⟩ := chunk_get s len xs j e' he'
        rw [h2] at hx
        exact (getElem?_sub hx).2
      have hlt : ∀ (k : Nat) (x : Tree), xs[k]? = some x → k < arr'.size := fun k x hx => by
        have := (List.getElem?_eq_some_iff.1 hx).1
        omega
      have key := TRel.sl (w := w.alloc (.cells arr' e)) (A := fun b => B b ∨ Ex κ h b) s (chunk s len xs) w.heap.size 0 len (fun j c => arr'.getD (j * s + c) undef) (by omega) (by omega) hA hel
        (fun j e' c x he' hx => by
          have h1 := hget j e' c x he' hx
          rw [cell_of_block (heap_alloc_at w _) (by rw [Nat.zero_add]; exact hlt _ x h1), Nat.zero_add])
        (fun j e' c x he' hx => by
          have h1 := hget j e' c x he' hx
          have h2 := hlt _ x h1
          have h3 := hxt _ x (arr'.getD (j * s + c) undef) h1 (by simp [Array.getD, h2])
          exact TRel.ext (ext_alloc hh _) (h3.less fun b hb => hb.imp id fun e => ⟨rfl, e⟩))
      rw [hcl] at key
      exact key
  · cases hr

/-! ### new objects -/
theorem snoc_get {α : Type} (l : List α) (a : α) (i : Nat) {x : α} (hx : (l ++ [a])[i]? = some x) : (i < l.length ∧ l[i]? = some x) ∨ (i = l.length ∧ x = a) := by
  rcases Nat.lt_or_ge i l.length with h1 | h1
  · rw [List.getElem?_append_left h1] at hx; exact .inl ⟨h1, hx⟩
  · rw [List.getElem?_append_right h1] at hx
    cases hn : i - l.length with
    | zero => rw [hn] at hx; simp at hx; exact .inr ⟨by omega, hx.symm⟩
    | succ n => rw [hn] at hx; simp at hx
theorem snoc_old {α : Type} {l : List α} {i : Nat} {x : α} (a : α) (hx : l[i]? = some x) : (l ++ [a])[i]? = some x := by
  rw [List.getElem?_append_left (List.getElem?_eq_some_iff.1 hx).1]; exact hx
theorem snoc_new {α : Type} (l : List α) (a : α) : (l ++ [a])[l.length]? = some a := by simp

theorem push_ext (hh : HRel B κ h w) {w' : World} (h1 : w'.os = w.os) (h2 : w'.tape = w.tape) (h3 : w'.output = w.output) (h4 : w.heap.size ≤ w'.heap.size) (h5 : ∀ b, b < w.heap.size → w'.heap[b]? = w.heap[b]?)
    {k : Option (Nat × Nat)} {o : AObj} (hk : ∀ b base, k = some (b, base) → w.heap.size ≤ b) : Ext κ h w (κ ++ [k]) (h ++ [o]) w' where
  os := h1
  tape := h2
  output := h3
  size := h4
  keep := fun b hb _ => h5 b hb
  ex := by
    rintro b ⟨i, base, o', hki, hoi, hf⟩
    rcases snoc_get κ k i hki with ⟨_, hki⟩ | ⟨rfl, he⟩
    · rcases snoc_get h o i hoi with ⟨_, hoi⟩ | ⟨rfl, he⟩
      · exact .inl ⟨i, base, o', hki, hoi, hf⟩
      · have := (List.getElem?_eq_some_iff.1 hki).1
        rw [hh.len] at this
        omega
    · exact .inr (hk b base he.symm)
  obj := fun i o' ho' => ⟨o', snoc_old o ho', .refl o'⟩
  kap := fun i o1 o2 h1 h2 _ => by
    have : i < κ.length := by rw [hh.len]; exact (List.getElem?_eq_some_iff.1 h1).1
    exact List.getElem?_append_left this
  cells := fun i o1 o2 ho1 ho2 _ b base hb cells elem fr hc => ⟨cells, by rw [← h5 b (hh.lt i b base hb)]; exact hc, rfl⟩

theorem push_hrel (hh : HRel B κ h w) {w' : World} (h5 : ∀ b, b < w.heap.size → w'.heap[b]? = w.heap[b]?) {k : Option (Nat × Nat)} {o : AObj} (x : Ext κ h w (κ ++ [k]) (h ++ [o]) w')
    (hk : ∀ b base, k = some (b, base) → w.heap.size ≤ b ∧ b < w'.heap.size) (ho : ORel B (κ ++ [k]) (h ++ [o]) w' k o) : HRel B (κ ++ [k]) (h ++ [o]) w' where
  len := by simp [hh.len]
  inj := fun i j b bs bs' hi hj => by
    rcases snoc_get κ k i hi with ⟨_, hi⟩ | ⟨rfl, hi1⟩
    · rcases snoc_get κ k j hj with ⟨_, hj⟩ | ⟨rfl, hj1⟩
      · exact hh.inj i j b bs bs' hi hj
      · have := (hk b bs' hj1.symm).1
        have := hh.lt i b bs hi
        omega
    · rcases snoc_get κ k j hj with ⟨_, hj⟩ | ⟨rfl, hj1⟩
      · have := (hk b bs hi1.symm).1
        have := hh.lt j b bs' hj
        omega
      · rfl
  notB := fun i b bs hi hB => by
    rcases snoc_get κ k i hi with ⟨_, hi⟩ | ⟨rfl, hi1⟩
    · exact hh.notB i b bs hi hB
    · have := (hk b bs hi1.symm).1
      have := hh.ltB b hB
      omega
  lt := fun i b bs hi => by
    rcases snoc_get κ k i hi with ⟨_, hi⟩ | ⟨rfl, hi1⟩
    · exact Nat.lt_of_lt_of_le (hh.lt i b bs hi) x.size
    · exact (hk b bs hi1.symm).2
  ltB := fun b hb => Nat.lt_of_lt_of_le (hh.ltB b hb) x.size
  obj := fun i o' k' ho' hk' => by
    rcases snoc_get κ k i hk' with ⟨hlt, hk'⟩ | ⟨rfl, rfl⟩
    · rcases snoc_get h o i ho' with ⟨_, ho'⟩ | ⟨rfl, _⟩
      · exact (hh.obj i o' k' ho' hk').ext x fun b base e => h5 b (by subst e; exact hh.lt i b base hk')
      · rw [hh.len] at hlt; omega
    · rcases snoc_get h o _ ho' with ⟨hlt, _⟩ | ⟨_, rfl⟩
      · rw [hh.len] at hlt; omega
      · exact ho

theorem CellsRel.ext {κ' : KMap} {h' : Heap} {w' : World} (x : Ext κ h w κ' h' w') {cs : List AV} {arr : Array Value} (hc : CellsRel B κ h w cs arr) : CellsRel B κ' h' w' cs arr :=
  ⟨hc.1, fun j y hy => (hc.2 j y hy).ext x⟩

theorem rowify_ok {P : Program} : ∀ {ts : List TypeId} {vs : List AV} {h : Heap} {κ : KMap} {K : List AV → Heap → Option R} {r : R} {arr : List Value}, rowify P ts vs h K = some r → HRel B κ h w → arr.length = vs.length →
    (∀ (j : Nat) (x : AV) (v : Value), vs[j]? = some x → arr[j]? = some v → VRel B κ h w x v) →
    ∃ (vs' : List AV) (g : Heap) (κ' : KMap), K vs' (h ++ g) = some r ∧ HRel B κ' (h ++ g) w ∧ Ext κ h w κ' (h ++ g) w ∧ vs'.length = vs.length ∧
      (∀ (j : Nat) (x : AV) (v : Value), vs'[j]? = some x → arr[j]? = some v → VRel B κ' (h ++ g) w x v) ∧ (vs.all AV.leaf = true → vs'.all AV.leaf = true)
  | ts, [], h, κ, K, r, arr, hr, hh, hl, hv => ⟨[], [], κ, by simpa [rowify] using hr, by simpa using hh, by simpa using Ext.refl κ h w, rfl, fun j x v hx => by simp at hx, fun _ => rfl⟩
  | ts, x :: vs, h, κ, K, r, arr, hr, hh, hl, hv => by
    cases arr with
    | nil => simp at hl
    | cons v arr =>
      have hx := hv 0 x v rfl rfl
      by_cases hn : x = .nilsl
      · subst hn
        simp only [rowify] at hr
        generalize (elemSz P (ts.headD 0)).getD 0 = z0 at hr
        have x1 : Ext κ h w (κ ++ [none]) (h ++ [.row false 0 z0 []]) w := push_ext hh rfl rfl rfl (Nat.le_refl _) (fun _ _ => rfl) (fun b base e => by cases e)
        have hh1 := push_hrel hh (fun _ _ => rfl) x1 (fun b base e => by cases e) (show ORel B (κ ++ [none]) (h ++ [.row false 0 z0 []]) w none (.row false 0 z0 []) from rfl)
        obtain ⟨vs', g, κ', h1, h2, h3, h4, h5, h6⟩ := rowify_ok (arr := arr) hr hh1 (by simpa using hl) fun j x' v' hx' hv' => (hv (j + 1) x' v' (by simpa using hx') (by simpa using hv')).ext x1
        refine ⟨_, .row false 0 z0 [] :: g, κ', by simpa using h1, by simpa using h2, by simpa using x1.trans h3, by simp [h4], fun j x' v' hx' hv' => ?_, fun ha => by
          simp only [List.all_cons, Bool.and_eq_true] at ha ⊢
          exact ⟨rfl, h6 ha.2⟩⟩
        cases j with
        | zero =>
          simp at hx' hv'
          subst hx' hv'
          cases hx with | nilsl a0 =>
          have hnew : (h ++ [AObj.row false 0 z0 []])[h.length]? = some (.row false 0 z0 []) := snoc_new h _
          have hkn : (κ ++ [none])[h.length]? = some none := by rw [← hh.len]; exact snoc_new κ _
          have hs : VRel B (κ ++ [none]) (h ++ [.row false 0 z0 []]) w (.sref h.length 0 0 0) (.slice a0 0 0) := by
            refine .sref _ _ _ _ _ rfl ⟨_, hnew, Nat.le_refl _⟩ fun k o hk ho _ => ?_
            rw [hkn] at hk
            cases hk
            rw [hnew] at ho
            cases ho
            exact ⟨rfl, by simp [AObj.len], ⟨_, rfl⟩⟩
          simpa using hs.ext h3
        | succ j => simpa using h5 j x' v' (by simpa using hx') (by simpa using hv')
      · have hr' : (rowify P ts.tail vs h fun vs' h' => K (x :: vs') h') = some r := by
          rw [← hr]
          cases x <;> first | exact (hn rfl).elim | rfl
        obtain ⟨vs', g, κ', h1, h2, h3, h4, h5, h6⟩ := rowify_ok (arr := arr) hr' hh (by simpa using hl) fun j x' v' hx' hv' => hv (j + 1) x' v' (by simpa using hx') (by simpa using hv')
        refine ⟨_, g, κ', h1, h2, h3, by simp [h4], fun j x' v' hx' hv' => ?_, fun ha => ?_⟩
        · cases j with
          | zero => simp at hx' hv'; subst hx' hv'; exact hx.ext h3
          | succ j => exact h5 j x' v' (by simpa using hx') (by simpa using hv')
        · simp only [List.all_cons, Bool.and_eq_true] at ha ⊢
          exact ⟨ha.1, h6 ha.2⟩

theorem allocBox_ok {P : Program} {t0 : TypeId} {cs : List AV} {K : AV → Heap → Option R} {r : R} (hr : allocBox P t0 cs h K = some r) (hh : HRel B κ h w) {arr : Array Value} (hc : CellsRel B κ h w cs arr) (t : TypeId) :
    ∃ v h' κ', K v h' = some r ∧ VRel B κ' h' (w.alloc (.cells arr t)) v (.pointer (some ⟨w.heap.size, 0, none⟩)) ∧ HRel B κ' h' (w.alloc (.cells arr t)) ∧ Ext κ h w κ' h' (w.alloc (.cells arr t)) := by
  unfold allocBox at hr
  obtain ⟨vs', g, κ1, hK, hh1, x1, hl, hv, _⟩ := rowify_ok (arr := arr.toList) hr hh (by simp [hc.1]) fun j x v hx hv => by
    have h1 := hc.2 j x hx
    rwa [getD_arr arr.toList j undef hv] at h1
  have h5 : ∀ b, b < w.heap.size → (w.alloc (.cells arr t)).heap[b]? = w.heap[b]? := fun b hb => heap_alloc_lt w _ hb
  have x2 : Ext κ1 (h ++ g) w (κ1 ++ [some (w.heap.size, 0)]) ((h ++ g) ++ [.box vs']) (w.alloc (.cells arr t)) :=
    push_ext (w' := w.alloc (.cells arr t)) hh1 rfl rfl rfl (by simp) h5 fun b base e => by injection e with e; injection e with e; omega
  have hh2 := push_hrel hh1 h5 x2 (fun b base e => by injection e with e; injection e with e; subst e; exact ⟨Nat.le_refl _, by simp⟩)
    ⟨rfl, arr, t, heap_alloc_at w _, by rw [hl]; exact hc.1, fun j x hx => by
      have hj : j < arr.size := by rw [hc.1, ← hl]; exact (List.getElem?_eq_some_iff.1 hx).1
      exact (hv j x (arr.getD j undef) hx (by simp [Array.getD, hj])).ext x2⟩
  refine ⟨_, _, _, hK, ?_, hh2, x1.trans x2⟩
  have hk : (κ1 ++ [some (w.heap.size, 0)])[(h ++ g).length]? = some (some (w.heap.size, 0)) := by rw [← hh1.len]; exact snoc_new κ1 _
  exact .ptr _ 0 w.heap.size 0 hk ⟨vs', snoc_new _ _⟩

theorem abuildBsl_ok {P : Program} {t : TypeId} {len : Nat} {parts : List (Nat × AV)} {vparts : Array (Nat × Value)} {K : AV → Heap → Option R} {r : R} (hr : abuildBsl P t h len parts K = some r) (hl : vparts.size = parts.length)
    (hp : ∀ (j i : Nat) (x : AV), parts[j]? = some (i, x) → ∃ v, vparts.toList[j]? = some (i, v) ∧ VRel B κ h w x v) (hh : HRel B κ h w) :
    ∃ v h' κ' val w', K v h' = some r ∧ (Instr.buildSlice t len vparts).run P w = .ok val w' ∧ VRel B κ' h' w' v val ∧ HRel B κ' h' w' ∧ Ext κ h w κ' h' w' := by
  unfold abuildBsl at hr
  try simp only [cnd_eq] at hr
  split at hr
  · rename_i e hu
    obtain ⟨s, hs, hr0⟩ := bind_some hr
    obtain ⟨z, hz, hr1⟩ := bind_some hr0
    obtain ⟨⟨hzl, hs0, hl0, hle⟩, hr2⟩ := ite_some hr1
    obtain ⟨cs, hcs, hK⟩ := bind_some hr2
    obtain ⟨i, v, hi, hv, hc⟩ := zeroCells_ok (B := B) (κ := κ) (h := h) (w := w) hz
    have hvs : v.cells.size = s := by rw [hc.1]; exact hzl
    have hc0 : CellsRel B κ h w (List.replicate len z).flatten ((Array.range (len * s)).map (v.cells[· % v.cells.size]!)) := by
      refine ⟨by rw [flatten_rep_len, hzl]; simp, fun j x hx => ?_⟩
      have hj : j < len * s := by
        have := (List.getElem?_eq_some_iff.1 hx).1
        rw [flatten_rep_len, hzl] at this
        exact this
      rw [flatten_rep_get z len j (by rw [hzl]; exact hj)] at hx
      have h1 := hc.2 _ x hx
      have h2 : j % z.length < v.cells.size := by rw [hvs, hzl]; exact Nat.mod_lt _ (by omega)
      have h3 : ((Array.range (len * s)).map (v.cells[· % v.cells.size]!)).getD j undef = v.cells.getD (j % z.length) undef := by
        have h4 : j % v.cells.size < v.cells.size := by rw [hvs]; exact Nat.mod_lt _ (by omega)
        simp [Array.getD, hj, hzl, hvs, Nat.mod_lt _ (Nat.pos_of_ne_zero hs0)]
      rw [h3]
      exact h1
    obtain ⟨arr', hf, hc'⟩ := fill_ok (vparts := vparts.toList) hcs hc0 (by simpa using hl) hp
    have hcsl : cs.length = len * s := by rw [fill_len hcs, flatten_rep_len, hzl]
    have h0 : ¬ len * s = 0 := fun h => (Nat.mul_eq_zero.1 h).elim hl0 hs0
    have h5 : ∀ b, b < w.heap.size → (w.alloc (.cells arr' e)).heap[b]? = w.heap[b]? := fun b hb => heap_alloc_lt w _ hb
    have x2 : Ext κ h w (κ ++ [some (w.heap.size, 0)]) (h ++ [.box cs]) (w.alloc (.cells arr' e)) :=
      push_ext (w' := w.alloc (.cells arr' e)) hh rfl rfl rfl (by simp) h5 fun b base e => by injection e with e; injection e with e; omega
    have hh2 := push_hrel hh h5 x2 (fun b base e => by injection e with e; injection e with e; subst e; exact ⟨Nat.le_refl _, by simp⟩)
      ⟨rfl, arr', e, heap_alloc_at w _, hc'.1, fun j x hx => by
        have hj : j < arr'.size := by rw [hc'.1]; exact (List.getElem?_eq_some_iff.1 hx).1
        exact (hc'.2 j x hx).ext x2⟩
    have hk : (κ ++ [some (w.heap.size, 0)])[h.length]? = some (some (w.heap.size, 0)) := by rw [← hh.len]; exact snoc_new κ _
    refine ⟨_, _, _, .slice (some ⟨w.heap.size, 0, none⟩) len len, w.alloc (.cells arr' e), hK, ?_, ?_, hh2, x2⟩
    · have hz1 : ¬ (len * s > 2 ^ 24) := by omega
      have hzr : (zeroValue e).run P w = .ok v w := by simp [zeroValue, typeInfo, hi, hv]
      simp only [Instr.buildSlice, Sem.run_bind, run_underlying hu, run_szOf hs, Result.andThen_ok, Sem.run_ite, if_neg hz1, Sem.run_pure]
      rw [if_neg h0]
      simp only [hzr, Result.andThen_ok, hf]
      rfl
    · exact .bsl _ 0 len s len w.heap.size hk ⟨cs, snoc_new _ _, by omega⟩ (Nat.le_refl _)
  · cases hr

/-! ### an object is turned -/
theorem set_get {α : Type} {l : List α} {i : Nat} {a : α} {j : Nat} {x : α} (hx : (l.set i a)[j]? = some x) : (j = i ∧ i < l.length ∧ x = a) ∨ (j ≠ i ∧ l[j]? = some x) := by
  rw [List.getElem?_set] at hx
  by_cases hij : i = j
  · subst hij
    rw [if_pos rfl] at hx
    split at hx
    · rename_i hl; cases hx; exact .inl ⟨rfl, hl, rfl⟩
    · cases hx
  · rw [if_neg hij] at hx
    exact .inr ⟨fun e => hij e.symm, hx⟩
theorem set_new {α : Type} {l : List α} {i : Nat} {a x : α} (hx : l[i]? = some x) : (l.set i a)[i]? = some a := by
  have := (List.getElem?_eq_some_iff.1 hx).1
  simp [this]
theorem set_old {α : Type} {l : List α} {i j : Nat} {a : α} (hij : j ≠ i) : (l.set i a)[j]? = l[j]? := by
  rw [List.getElem?_set, if_neg (Ne.symm hij)]

theorem upd_ext (hh : HRel B κ h w) {i : Nat} {o o' : AObj} (hi : h[i]? = some o) (hf : o.isFrz = false) (hOL : OLe o o') {k k' : Option (Nat × Nat)} (hk : κ[i]? = some k) {w' : World}
    (h1 : w'.os = w.os) (h2 : w'.tape = w.tape) (h3 : w'.output = w.output) (h4 : w.heap.size ≤ w'.heap.size)
    (h5 : ∀ b, b < w.heap.size → (∀ base, k ≠ some (b, base)) → w'.heap[b]? = w.heap[b]?)
    (h6 : ∀ b base, k' = some (b, base) → (∃ base0, k = some (b, base0)) ∨ w.heap.size ≤ b)
    (h7 : o.ver = o'.ver → k' = k ∧ ∀ b base, k = some (b, base) → ∀ cells elem fr, w'.heap[b]? = some (.cells cells elem fr) → ∃ cells', w.heap[b]? = some (.cells cells' elem fr) ∧ cells'.size = cells.size) :
    Ext κ h w (κ.set i k') (h.set i o') w' where
  os := h1
  tape := h2
  output := h3
  size := h4
  keep := fun b hb hn => h5 b hb fun base e => hn ⟨i, base, o, by rw [hk, e], hi, hf⟩
  ex := by
    rintro b ⟨j, base, oj, hkj, hoj, hfj⟩
    rcases set_get hkj with ⟨rfl, _, e⟩ | ⟨hne, hkj⟩
    · rcases h6 b base e.symm with ⟨base0, e0⟩ | hle
      · exact .inl ⟨_, base0, o, by rw [hk, e0], hi, hf⟩
      · exact .inr hle
    · rw [set_old hne] at hoj
      exact .inl ⟨j, base, oj, hkj, hoj, hfj⟩
  obj := fun j oj hoj => by
    by_cases hij : j = i
    · subst hij
      rw [hi] at hoj
      cases hoj
      exact ⟨o', set_new hi, hOL⟩
    · exact ⟨oj, by rw [set_old hij]; exact hoj, .refl oj⟩
  kap := fun j o1 o2 ho1 ho2 hv => by
    by_cases hij : j = i
    · subst hij
      rw [hi] at ho1
      cases ho1
      rw [set_new hi] at ho2
      cases ho2
      rw [set_new hk, hk, (h7 hv).1]
    · rw [set_old hij]
  cells := fun j o1 o2 ho1 ho2 hv b base hkb cells elem fr hc => by
    by_cases hij : j = i
    · subst hij
      rw [hi] at ho1
      cases ho1
      rw [set_new hi] at ho2
      cases ho2
      rw [hk] at hkb
      cases hkb
      exact (h7 hv).2 b base rfl cells elem fr hc
    · refine ⟨cells, ?_, rfl⟩
      rw [← h5 b (hh.lt j b base hkb) fun base' e => hij (hh.inj j i b base base' hkb (by rw [hk, e]))]
      exact hc

theorem upd_hrel (hh : HRel B κ h w) {i : Nat} {o o' : AObj} (hi : h[i]? = some o) {k k' : Option (Nat × Nat)} (hk : κ[i]? = some k) {w' : World}
    (h5 : ∀ b, b < w.heap.size → (∀ base, k ≠ some (b, base)) → w'.heap[b]? = w.heap[b]?)
    (h6 : ∀ b base, k' = some (b, base) → ((∃ base0, k = some (b, base0)) ∨ w.heap.size ≤ b) ∧ b < w'.heap.size)
    (x : Ext κ h w (κ.set i k') (h.set i o') w') (ho : ORel B (κ.set i k') (h.set i o') w' k' o') : HRel B (κ.set i k') (h.set i o') w' where
  len := by simp [hh.len]
  inj := fun a j b bs bs' ha hj => by
    by_cases hai : a = i
    · by_cases hji : j = i
      · rw [hai, hji]
      · rcases set_get hj with ⟨e, _, _⟩ | ⟨_, hj⟩
        · exact (hji e).elim
        rcases set_get ha with ⟨_, _, e1⟩ | ⟨hne1, _⟩
        · rcases (h6 b bs e1.symm).1 with ⟨b0, e0⟩ | hle
          · rw [hai]; exact (hh.inj j i b bs' b0 hj (by rw [hk, e0])).symm
          · have := hh.lt j b bs' hj; omega
        · exact (hne1 hai).elim
    · rcases set_get ha with ⟨e, _, _⟩ | ⟨_, ha⟩
      · exact (hai e).elim
      by_cases hji : j = i
      · rcases set_get hj with ⟨_, _, e1⟩ | ⟨hne1, _⟩
        · rcases (h6 b bs' e1.symm).1 with ⟨b0, e0⟩ | hle
          · rw [hji]; exact hh.inj a i b bs b0 ha (by rw [hk, e0])
          · have := hh.lt a b bs ha; omega
        · exact (hne1 hji).elim
      · rcases set_get hj with ⟨e, _, _⟩ | ⟨_, hj⟩
        · exact (hji e).elim
        · exact hh.inj a j b bs bs' ha hj
  notB := fun a b bs ha hB => by
    rcases set_get ha with ⟨rfl, _, e1⟩ | ⟨hne1, ha⟩
    · rcases (h6 b bs e1.symm).1 with ⟨b0, e0⟩ | hle
      · exact hh.notB _ b b0 (by rw [hk, e0]) hB
      · have := hh.ltB b hB; omega
    · exact hh.notB a b bs ha hB
  lt := fun a b bs ha => by
    rcases set_get ha with ⟨rfl, _, e1⟩ | ⟨hne1, ha⟩
    · exact (h6 b bs e1.symm).2
    · exact Nat.lt_of_lt_of_le (hh.lt a b bs ha) x.size
  ltB := fun b hb => Nat.lt_of_lt_of_le (hh.ltB b hb) x.size
  obj := fun j oj kj hoj hkj => by
    by_cases hij : j = i
    · subst hij
      rw [set_new hi] at hoj
      cases hoj
      rw [set_new hk] at hkj
      cases hkj
      exact ho
    · rw [set_old hij] at hoj hkj
      refine (hh.obj j oj kj hoj hkj).ext x fun b base e => ?_
      subst e
      exact h5 b (hh.lt j b base hkj) fun base' e' => hij (hh.inj j i b base base' hkj (by rw [hk, e']))

end Ab
