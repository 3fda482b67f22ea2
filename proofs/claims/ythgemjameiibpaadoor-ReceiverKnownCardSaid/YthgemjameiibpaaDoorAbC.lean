/- Soundness of the abstract operations that only read. -/
import Derived.Test.YthgemjameiibpaaDoorAbB
import Derived.Laws.Entries
import Derived.ChangeKeysEq
import Derived.Laws.StructEq
namespace Ab
open Go

variable {R : Type} {P : Program} {B : Nat → Prop} {κ : KMap} {h : Heap} {w : World}

theorem leafConst_ok (v : Value) : VRel B κ h w (leafConst v) v := by
  unfold leafConst
  split
  · exact .t _ _ (.int _ _)
  · exact .t _ _ (.bool _)
  · exact .t _ _ (.str _)
  · exact .nilsl none
  · exact .t _ _ (.const _ rfl)
  · exact .t _ _ (.const _ rfl)
  · exact .t _ _ (.const _ rfl)
  · exact .t _ _ (.const _ rfl)
  · exact .func _ _ _ _ _ rfl rfl (fun j x hx => by simp at hx) (fun j x hx => by simp at hx)
  · exact .undef _

theorem getD_arr {α : Type} (cs : List α) (j : Nat) (d : α) {c : α} (hc : cs[j]? = some c) : (Array.mk cs).getD j d = c := by
  obtain ⟨hj, he⟩ := List.getElem?_eq_some_iff.1 hc
  simp [Array.getD, hj, he]

theorem ofConst_ok (v : Value) : VRel B κ h w (ofConst v) v := by
  unfold ofConst
  split
  · rename_i cs
    refine .agg _ _ (by simp) fun j x hx => ?_
    rw [List.getElem?_map] at hx
    cases hc : cs[j]? with
    | none => rw [hc] at hx; simp at hx
    | some c =>
      rw [hc] at hx
      simp only [Option.map_some, Option.some.injEq] at hx
      subst hx
      rw [getD_arr cs j undef hc]
      exact leafConst_ok c
  · exact leafConst_ok v

structure Rel (B : Nat → Prop) (N : Nat) (κ : KMap) (env : Env) (h : Heap) (a : Act) (w : World) : Prop where
  heap : HRel B κ h w
  size : a.tmps.size = N
  slot : ∀ i, VRel B κ h w (env i) (a.tmps.getD i undef)

theorem ev_ok {N : Nat} {env : Env} {a : Act} (hr : Rel B N κ env h a w) (x : Operand) : VRel B κ h w (ev env x) (a.eval x) := by
  cases x with
  | tmp t => exact hr.slot t
  | const v => exact ofConst_ok v
  | global g => exact .undef _
  | func f => exact .func _ _ _ _ _ rfl rfl (fun j x hx => by simp at hx) (fun j x hx => by simp at hx)

theorem asIntK_ok {k : IntKind} {x : AV} {n : Int} {v : Value} (hx : asIntK k x = some n) (hv : VRel B κ h w x v) : v = .int k n := by
  unfold asIntK at hx
  split at hx
  · rename_i k' n'
    split at hx
    · rename_i hk
      subst hk
      cases hx
      cases hv with
      | t _ _ ht => cases ht; rfl
    · cases hx
  · cases hx

theorem asInt_ok {x : AV} {n : Int} {v : Value} (hx : asInt x = some n) (hv : VRel B κ h w x v) : ∃ k, v = .int k n := by
  unfold asInt at hx
  split at hx
  · rename_i k' n'
    cases hx
    cases hv with
    | t _ _ ht => cases ht; exact ⟨_, rfl⟩
  · cases hx

theorem asBool_ok {x : AV} {b : Bool} {v : Value} (hx : asBool x = some b) (hv : VRel B κ h w x v) : v = .bool b := by
  unfold asBool at hx
  split at hx
  · cases hx
    cases hv with
    | t _ _ ht => cases ht; rfl
  · cases hx

theorem asStr_ok {x : AV} {s : ByteArray} {v : Value} (hx : asStr x = some s) (hv : VRel B κ h w x v) : v = .string s := by
  unfold asStr at hx
  split at hx
  · cases hx
    cases hv with
    | t _ _ ht => cases ht; rfl
  · cases hx

theorem bind_some {α β : Type} {x : Option α} {f : α → Option β} {r : β} (h : x.bind f = some r) : ∃ a, x = some a ∧ f a = some r := by
  cases x with
  | none => cases h
  | some a => exact ⟨a, rfl, h⟩

theorem ite_some {α : Type} {c : Prop} [Decidable c] {x : Option α} {r : α} (h : (if c then x else none) = some r) : c ∧ x = some r := by
  split at h
  · rename_i hc; exact ⟨hc, h⟩
  · cases h

/-! ### loads -/
theorem run_isAgg {t : TypeId} {b : Bool} (hb : isAggT P t = some b) (w : World) : (isAgg t).run P w = .ok b w := by
  unfold isAggT at hb
  unfold isAgg
  split at hb
  · rename_i fs hu; cases hb; simp [run_underlying hu]
  · rename_i n e hu; cases hb; simp [run_underlying hu]
  · rename_i d hn1 hn2 hu
    cases hb
    cases d <;> first | exact (hn1 _ rfl).elim | exact (hn2 _ _ rfl).elim | simp [run_underlying hu]
  · cases hb

theorem run_szOf {t : TypeId} {n : Nat} (hn : szOf P t = some n) (w : World) : (Go.sizeOf t).run P w = .ok n w := by
  unfold szOf at hn
  cases hi : P.info? t with
  | none => rw [hi] at hn; cases hn
  | some i =>
    rw [hi] at hn
    simp only [Option.map_some, Option.some.injEq] at hn
    simp [Go.sizeOf, typeInfo, hi, hn]

theorem getD_map_range {α : Type} (f : Nat → α) (n j : Nat) (d : α) (hj : j < n) : ((List.range n).map f).toArray.getD j d = f j := by
  simp [Array.getD, hj]

theorem rd_ok {t : TypeId} {total : Nat} {get : Nat → AV} {off : Nat} {K : AV → Option R} {r : R} (hr : rd P t total get off K = some r)
    {b base : Nat} (u : Nat → Value) (hc : ∀ c, c < total → w.cell? ⟨b, base + c, none⟩ = some (u c)) (hv : ∀ c, c < total → VRel B κ h w (get c) (u c)) :
    ∃ v val, K v = some r ∧ (Instr.loadAt t (.pointer (some ⟨b, base + off, none⟩))).run P w = .ok val w ∧ VRel B κ h w v val := by
  unfold rd at hr
  try simp only [cnd_eq] at hr
  split at hr
  · rename_i n ha hs
    obtain ⟨hle, hK⟩ := ite_some hr
    refine ⟨_, .agg ((List.range n).map fun j => u (off + j)).toArray, hK, ?_, ?_⟩
    · have hl := run_loadCells (P := P) w ⟨b, base + off, none⟩ n (fun j => u (off + j)) (fun j hj => by
        have := hc (off + j) (by omega)
        unfold Addr.add
        split
        · rename_i h0; subst h0; simpa using this
        · simpa [Nat.add_assoc] using this)
      simp [Instr.loadAt, Instr.sureAddr, loadVar, run_isAgg ha, run_szOf hs, hl]
    · refine .agg _ _ (by simp [pickCells]) fun j x hx => ?_
      have hj : j < n := by
        rcases Nat.lt_or_ge j n with h | h
        · exact h
        · simp [pickCells, h] at hx
      simp only [pickCells, List.getElem?_map, List.getElem?_range hj, Option.map_some, Option.some.injEq] at hx
      subst hx
      rw [getD_map_range _ _ _ _ hj]
      exact hv _ (by omega)
  · rename_i ha
    obtain ⟨hlt, hK⟩ := ite_some hr
    refine ⟨_, u off, hK, ?_, hv off hlt⟩
    have := hc off hlt
    simp [Instr.loadAt, Instr.sureAddr, loadVar, run_isAgg ha, this]
  · cases hr

theorem cell_of_block {b o : Nat} {cells : Array Value} {elem : TypeId} {fr : Nat × Nat} (hb : w.heap[b]? = some (.cells cells elem fr)) (ho : o < cells.size) :
    w.cell? ⟨b, o, none⟩ = some (cells.getD o undef) := by
  simp [World.cell?, hb, Array.getD, ho]

theorem getD_of_lt {α : Type} (l : List α) (j : Nat) (d : α) (hj : j < l.length) : l[j]? = some (l.getD j d) := by
  simp [List.getD, hj]

theorem kap_some (hh : HRel B κ h w) {i : Nat} {o : AObj} (ho : h[i]? = some o) : ∃ k, κ[i]? = some k := by
  have : i < h.length := by
    rcases Nat.lt_or_ge i h.length with x | x
    · exact x
    · rw [List.getElem?_eq_none x] at ho; cases ho
  exact ⟨_, List.getElem?_eq_getElem (by rw [hh.len]; exact this)⟩

theorem aload_ok {t : TypeId} {a : AV} {K : AV → Option R} {r : R} (hr : aload P t h a K = some r) (hh : HRel B κ h w) {av : Value} (ha : VRel B κ h w a av) :
    ∃ v val, K v = some r ∧ (Instr.loadAt t av).run P w = .ok val w ∧ VRel B κ h w v val := by
  unfold aload at hr
  try simp only [cnd_eq] at hr
  split at hr
  · rename_i i off
    split at hr
    · rename_i cs hi
      cases ha with
      | ptr _ _ b base hk _ =>
        obtain ⟨hb0, cells, elem, hc, hs, hv⟩ := hh.obj i _ _ hi hk
        subst hb0
        refine rd_ok hr (fun c => cells.getD c undef) (fun c hlt => ?_) (fun c hlt => hv c _ (getD_of_lt _ _ _ hlt))
        rw [Nat.zero_add]
        exact cell_of_block hc (by omega)
    · cases hr
  · rename_i i ver k off
    split at hr
    · rename_i fz ver' size es hi
      obtain ⟨rfl, hr1⟩ := ite_some hr
      obtain ⟨e, he, hr2⟩ := bind_some hr1
      clear hr hr1
      cases ha with
      | rptr _ _ _ _ _ _ _ hv =>
        obtain ⟨b, base, hkk, rfl, _, _⟩ := hv _ hi rfl
        obtain ⟨_, cells, elem, hc, hs, hl, ht⟩ := hh.obj i _ _ hi hkk
        have hk : k < es.length := by
          rcases Nat.lt_or_ge k es.length with x | x
          · exact x
          · rw [List.getElem?_eq_none x] at he; cases he
        have hmul : k * size + size ≤ es.length * size := by
          rw [← Nat.succ_mul]; exact Nat.mul_le_mul_right _ hk
        simp only [AObj.size]
        rw [← Nat.add_assoc]
        refine rd_ok hr2 (fun c => cells.getD (base + (k * size + c)) undef) (fun c hlt => ?_) (fun c hlt => .t _ _ (ht k e c _ he (getD_of_lt _ _ _ (by rw [hl k e he]; exact hlt))))
        rw [Nat.add_assoc]
        exact cell_of_block hc (by omega)
    · cases hr
  · rename_i size cells off
    cases ha with
    | eptr _ _ _ b base u hsz hb hn hc ht =>
      refine rd_ok hr u (fun c hlt => ?_) (fun c hlt => ?_)
      · exact hc c _ (getD_of_lt _ c default (by omega))
      · exact .t _ _ (ht c _ (getD_of_lt _ _ _ (by omega)))
  · cases hr

/-! ### slices as lists of elements -/
/-- A slice value over elements. -/
def SlRel (w : World) (A : Nat → Prop) (size : Nat) (es : List (List Tree)) (v : Value) : Prop :=
  (∀ (j : Nat) (e : List Tree), es[j]? = some e → e.length = size) ∧ ∃ a cap, v = .slice a es.length cap ∧ es.length ≤ cap ∧
    (es = [] ∨ ∃ b off, a = some ⟨b, off, none⟩ ∧ b < w.heap.size ∧ ∀ (j : Nat) (e : List Tree) (c : Nat) (x : Tree), es[j]? = some e → e[c]? = some x →
      ∃ u, w.cell? ⟨b, off + (j * size + c), none⟩ = some u ∧ TRel w A x u)

theorem TRel.less {A A' : Nat → Prop} {x : Tree} {v : Value} (ht : TRel w A x v) (hA : ∀ b, A' b → A b) : TRel w A' x v :=
  ht.mono (Nat.le_refl _) (fun _ _ _ => rfl) fun b hb => .inl (hA b hb)

theorem SlRel.of_tree {A : Nat → Prop} {size : Nat} {es : List (List Tree)} {v : Value} (ht : TRel w A (.sl size es) v) : SlRel w A size es v := by
  cases ht with
  | nil _ cap a => exact ⟨fun j e he => by simp at he, a, cap, rfl, Nat.zero_le _, .inl rfl⟩
  | sl _ _ b off cap u h1 h2 h3 h4 h5 h6 =>
    exact ⟨h4, _, cap, rfl, h1, .inr ⟨b, off, rfl, h2, fun j e c x he hx => ⟨_, h5 j e c x he hx, h6 j e c x he hx⟩⟩⟩

theorem getElem?_sub {α : Type} {es : List α} {off len j : Nat} {e : α} (he : ((es.drop off).take len)[j]? = some e) : j < len ∧ es[off + j]? = some e := by
  have hj : j < len := by
    rcases Nat.lt_or_ge j len with x | x
    · exact x
    · simp [List.getElem?_take, Nat.not_lt.2 x] at he
  rw [List.getElem?_take_of_lt hj, List.getElem?_drop] at he
  exact ⟨hj, he⟩

theorem row_sub {B : Nat → Prop} (hh : HRel B κ h w) {i ver off len size : Nat} {fz : Bool} {es : List (List Tree)} {v : Value} (hi : h[i]? = some (.row fz ver size es)) (hs : SRef κ h w i ver off len v) :
    ((es.drop off).take len).length = len ∧ off + len ≤ es.length ∧ SlRel w (fun b => B b ∨ Ex κ h b) size ((es.drop off).take len) v ∧
      (len = 0 ∨ ∃ b base cap, κ[i]? = some (some (b, base)) ∧ v = .slice (some ⟨b, base + off * size, none⟩) len cap) := by
  obtain ⟨k, hk⟩ := kap_some hh hi
  obtain ⟨_, hlen, hm⟩ := hs k _ hk hi rfl
  simp only [AObj.len] at hlen
  have hl : ((es.drop off).take len).length = len := by simp; omega
  refine ⟨hl, hlen, ?_⟩
  have ho := hh.obj i _ _ hi hk
  cases k with
  | none =>
    simp only [ORel] at ho
    subst ho
    simp only [List.length_nil] at hlen
    have h0 : len = 0 := by omega
    subst h0
    obtain ⟨a0, rfl⟩ := hm
    exact ⟨⟨fun j e he => by simp at he, a0, 0, by simp, by simp, .inl (by simp)⟩, .inl rfl⟩
  | some p =>
    obtain ⟨b, base⟩ := p
    obtain ⟨cap, rfl, hcap, _⟩ := hm
    obtain ⟨_, cells, elem, hc, hsz, hls, ht⟩ := ho
    simp only [AObj.size]
    simp only [AObj.len] at hcap
    refine ⟨⟨fun j e he => hls _ e (getElem?_sub he).2, _, cap, by rw [hl], by rw [hl]; omega, .inr ⟨b, base + off * size, rfl, hh.lt i b base hk, fun j e c x he hx => ?_⟩⟩, .inr ⟨b, base, cap, hk, rfl⟩⟩
    obtain ⟨hj, he'⟩ := getElem?_sub he
    have hcl : c < size := by
      have := (List.getElem?_eq_some_iff.1 hx).1
      rw [hls _ e he'] at this
      exact this
    have hoj : off + j < es.length := (List.getElem?_eq_some_iff.1 he').1
    have hmul : (off + j) * size + size ≤ es.length * size := by
      rw [← Nat.succ_mul]; exact Nat.mul_le_mul_right _ hoj
    have heq : base + off * size + (j * size + c) = base + ((off + j) * size + c) := by rw [Nat.add_mul]; omega
    refine ⟨_, ?_, ht (off + j) e c x he' hx⟩
    rw [heq]
    exact cell_of_block hc (by omega)

theorem SlRel.nil_any {A : Nat → Prop} {size size' : Nat} {v : Value} (hs : SlRel w A size [] v) : SlRel w A size' [] v := by
  obtain ⟨_, a, cap, e, _, _⟩ := hs
  exact ⟨fun j e he => by simp at he, a, cap, e, Nat.zero_le _, .inl rfl⟩

theorem row_zero (hh : HRel B κ h w) {i ver size : Nat} {fz : Bool} {es : List (List Tree)} (hi : h[i]? = some (.row fz ver size es)) (hz : size = 0) : es = [] := by
  obtain ⟨k, hk⟩ := kap_some hh hi
  have ho := hh.obj i _ _ hi hk
  cases k with
  | none => exact ho
  | some p => exact (ho.1 hz).elim

theorem drop_take_nil {α : Type} {es : List α} (he : es = []) (a b : Nat) : (es.drop a).take b = [] := by
  subst he
  simp

theorem elems_ok {z : Nat} {x : AV} {K : List (List Tree) → Option R} {r : R} (hr : elems h z x K = some r) (hh : HRel B κ h w) {v : Value} (hv : VRel B κ h w x v) :
    ∃ es, K es = some r ∧ SlRel w (fun b => B b ∨ Ex κ h b) z es v := by
  unfold elems at hr
  try simp only [cnd_eq] at hr
  split at hr
  · obtain ⟨rfl, hK⟩ := ite_some hr
    cases hv with
    | t _ _ ht => exact ⟨_, hK, .of_tree ht⟩
  · cases hv with
    | nilsl a0 => exact ⟨_, hr, fun j e he => by simp at he, a0, 0, rfl, Nat.le_refl _, .inl rfl⟩
  · split at hr
    · rename_i i ver off len _ fz ver' size es hi
      obtain ⟨⟨rfl, hz⟩, hK⟩ := ite_some hr
      cases hv with
      | sref _ _ _ _ _ _ _ hs =>
        obtain ⟨_, _, hsl, _⟩ := row_sub hh hi hs
        refine ⟨_, hK, ?_⟩
        rcases hz with rfl | hz
        · exact hsl
        · rw [drop_take_nil (row_zero hh hi hz)] at hsl ⊢; exact hsl.nil_any
    · cases hr
  · cases hr

theorem TRel.of_SlRel {A : Nat → Prop} {size : Nat} {es : List (List Tree)} {v : Value} (hs : SlRel w A size es v)
    (hA : ∀ b off cap, v = .slice (some ⟨b, off, none⟩) es.length cap → es ≠ [] → ¬ A b) : TRel w A (.sl size es) v := by
  obtain ⟨hl, a, cap, rfl, hcap, hc⟩ := hs
  rcases hc with rfl | ⟨b, off, rfl, hb, hc⟩
  · exact .nil _ _ _
  · by_cases hn : es = []
    · subst hn; exact .nil _ _ _
    · have hex : ∀ (j c : Nat), ∃ u, ∀ (e : List Tree) (x : Tree), es[j]? = some e → e[c]? = some x → w.cell? ⟨b, off + (j * size + c), none⟩ = some u ∧ TRel w A x u := by
        intro j c
        by_cases hj : ∃ e x, es[j]? = some e ∧ e[c]? = some x
        · obtain ⟨e, x, he, hx⟩ := hj
          obtain ⟨u, h1, h2⟩ := hc j e c x he hx
          refine ⟨u, fun e' x' he' hx' => ?_⟩
          rw [he] at he'; cases he'
          rw [hx] at hx'; cases hx'
          exact ⟨h1, h2⟩
        · exact ⟨undef, fun e x he hx => (hj ⟨e, x, he, hx⟩).elim⟩
      refine .sl size es b off cap (fun j c => (hex j c).choose) hcap hb (hA b off cap rfl hn) hl (fun j e c x he hx => ?_) (fun j e c x he hx => ?_)
      · exact ((hex j c).choose_spec e x he hx).1
      · exact ((hex j c).choose_spec e x he hx).2

theorem elemSz_ok {t : TypeId} {z : Nat} (hz : elemSz P t = some z) : ∃ e, P.underlying t = some (.slice e) ∧ szOf P e = some z := by
  unfold elemSz at hz
  split at hz
  · rename_i e he; exact ⟨e, he, hz⟩
  · cases hz

theorem conv_ok {fz : Bool} {ty : TypeId} {x : AV} {K : Tree → Option R} {r : R} (hr : conv P fz h ty x K = some r) (hh : HRel B κ h w) {v : Value} (hv : VRel B κ h w x v) :
    ∃ y, K y = some r ∧ TRel w (fun b => B b ∨ (fz = true ∧ Ex κ h b)) y v := by
  unfold conv at hr
  try simp only [cnd_eq] at hr
  split at hr
  · cases hv with
    | t _ _ ht => exact ⟨_, hr, ht.less fun b hb => hb.imp id And.right⟩
  · obtain ⟨s, hs, hK⟩ := bind_some hr
    cases hv
    exact ⟨_, hK, .nil _ _ _⟩
  · rename_i i ver off len
    split at hr
    · rename_i f ver' size es hi
      obtain ⟨s, hs, hK0⟩ := bind_some hr
      obtain ⟨⟨hf, rfl, hz⟩, hK⟩ := ite_some hK0
      clear hK0
      cases hv with
      | sref _ _ _ _ _ _ _ hsr =>
        obtain ⟨hl, hle, hsl, hbb⟩ := row_sub hh hi hsr
        refine ⟨_, hK, ?_⟩
        have hsl' : SlRel w (fun b => B b ∨ (fz = true ∧ Ex κ h b)) s ((es.drop off).take len) v := by
          have h1 : SlRel w (fun b => B b ∨ Ex κ h b) s ((es.drop off).take len) v := by
            rcases hz with rfl | hz
            · exact hsl
            · rw [drop_take_nil (row_zero hh hi hz)] at hsl ⊢; exact hsl.nil_any
          obtain ⟨hq, a, cap, e1, e2, e3⟩ := h1
          refine ⟨hq, a, cap, e1, e2, ?_⟩
          rcases e3 with e3 | ⟨b, o, e4, e5, e6⟩
          · exact .inl e3
          · exact .inr ⟨b, o, e4, e5, fun j e c x he hx => by obtain ⟨u, u1, u2⟩ := e6 j e c x he hx; exact ⟨u, u1, u2.less fun b hb => hb.imp id And.right⟩⟩
        refine .of_SlRel hsl' fun b o cap he hn hA => ?_
        rcases hbb with h0 | ⟨b', base, cap', hk, he'⟩
        · subst h0; simp at hn
        · rw [he'] at he
          injection he with he1
          injection he1 with he1
          injection he1 with he1
          subst he1
          rcases hA with hB | ⟨hfz, i', base', o', hk', ho', hfz'⟩
          · exact hh.notB i _ _ hk hB
          · rcases hf with hf | hf
            · subst hf
              obtain rfl := hh.inj i i' _ _ _ hk hk'
              rw [hi] at ho'
              cases ho'
              simp [AObj.isFrz] at hfz'
            · rw [hf] at hfz; exact absurd hfz (by simp)
    · cases hr
  · rename_i fn
    cases hv with
    | func _ _ _ fs cs h1 h2 _ _ =>
      have e1 : fs = #[] := Array.eq_empty_of_size_eq_zero h1
      have e2 : cs = #[] := Array.eq_empty_of_size_eq_zero h2
      subst e1 e2
      exact ⟨_, hr, .const _ rfl⟩
  · cases hr

theorem convs_ok {fz : Bool} : ∀ {ts : List TypeId} {xs : List AV} {K : List Tree → Option R} {r : R}, convs P fz h ts xs K = some r → HRel B κ h w → ∀ {vs : List Value}, vs.length = xs.length →
    (∀ (j : Nat) (x : AV) (v : Value), xs[j]? = some x → vs[j]? = some v → VRel B κ h w x v) →
    ∃ ys : List Tree, K ys = some r ∧ ys.length = xs.length ∧ ts.length = xs.length ∧ ∀ (j : Nat) (y : Tree) (v : Value), ys[j]? = some y → vs[j]? = some v → TRel w (fun b => B b ∨ (fz = true ∧ Ex κ h b)) y v
  | [], [], K, r, hr, hh, vs, hl, hv => ⟨[], hr, rfl, rfl, fun j y v hy => by simp at hy⟩
  | [], x :: xs, K, r, hr, hh, vs, hl, hv => by simp [convs] at hr
  | t :: ts, [], K, r, hr, hh, vs, hl, hv => by simp [convs] at hr
  | t :: ts, x :: xs, K, r, hr, hh, vs, hl, hv => by
    cases vs with
    | nil => simp at hl
    | cons v vs =>
      obtain ⟨y, hK, hy⟩ := conv_ok (P := P) hr hh (hv 0 x v rfl rfl)
      obtain ⟨ys, hK2, h1, h2, h3⟩ := convs_ok (vs := vs) hK hh (by simpa using hl) fun j x' v' hx' hv' => hv (j + 1) x' v' (by simpa using hx') (by simpa using hv')
      refine ⟨y :: ys, hK2, by simp [h1], by simp [h2], fun j y' v' hy' hv' => ?_⟩
      cases j with
      | zero => simp at hy' hv'; subst hy' hv'; exact hy
      | succ j => exact h3 j y' v' (by simpa using hy') (by simpa using hv')

/-! ### arithmetic -/
theorem aarith_ok {op : BinOp} {k : IntKind} {a b : Int} {K : AV → Option R} {r : R} (hr : aarith op k a b K = some r) (t : TypeId) :
    ∃ v val, K v = some r ∧ (binOp op t (.int k a) (.int k b)).run P w = .ok val w ∧ VRel B κ h w v val := by
  unfold aarith at hr
  try simp only [cnd_eq] at hr
  split at hr
  · exact ⟨_, _, hr, by simp [binOp, Op.intArith], .t _ _ (.int _ _)⟩
  · exact ⟨_, _, hr, by simp [binOp, Op.intArith], .t _ _ (.int _ _)⟩
  · exact ⟨_, _, hr, by simp [binOp, Op.intArith], .t _ _ (.int _ _)⟩
  · split at hr
    · cases hr
    · rename_i hb; exact ⟨_, _, hr, by simp [binOp, Op.intDiv, hb], .t _ _ (.int _ _)⟩
  · split at hr
    · cases hr
    · rename_i hb; exact ⟨_, _, hr, by simp [binOp, Op.intDiv, hb], .t _ _ (.int _ _)⟩
  · exact ⟨_, _, hr, by simp [binOp, Op.intCmp], .t _ _ (.bool _)⟩
  · exact ⟨_, _, hr, by simp [binOp, Op.intCmp], .t _ _ (.bool _)⟩
  · exact ⟨_, _, hr, by simp [binOp, Op.intCmp], .t _ _ (.bool _)⟩
  · exact ⟨_, _, hr, by simp [binOp, Op.intCmp], .t _ _ (.bool _)⟩
  · exact ⟨_, _, hr, by simp [binOp, Op.intCmp], .t _ _ (.bool _)⟩
  · exact ⟨_, _, hr, by simp [binOp, Op.intCmp], .t _ _ (.bool _)⟩
  · exact ⟨_, _, hr, by simp [binOp, Op.intBits, andK], .t _ _ (.int _ _)⟩
  · exact ⟨_, _, hr, by simp [binOp, Op.intBits, orK], .t _ _ (.int _ _)⟩
  · exact ⟨_, _, hr, by simp [binOp, Op.intBits, xorK], .t _ _ (.int _ _)⟩
  · cases hr

theorem ashift_ok {op : BinOp} {k k' : IntKind} {a b : Int} {K : AV → Option R} {r : R} (hr : ashift op k a b K = some r) (t : TypeId) :
    ∃ v val, K v = some r ∧ (binOp op t (.int k a) (.int k' b)).run P w = .ok val w ∧ VRel B κ h w v val := by
  unfold ashift at hr
  try simp only [cnd_eq] at hr
  split at hr
  · split at hr
    · cases hr
    · rename_i hb; exact ⟨_, _, hr, by simp [binOp, Op.shift, hb, shlK], .t _ _ (.int _ _)⟩
  · split at hr
    · cases hr
    · rename_i hb; exact ⟨_, _, hr, by simp [binOp, Op.shift, hb, shrK], .t _ _ (.int _ _)⟩
  · cases hr

/-- The value at a place among cells. -/
def Fits (P : Program) (B : Nat → Prop) (κ : KMap) (h : Heap) (w : World) (g : Nat → AV) (off : Nat) (t : TypeId) (v : Value) : Prop :=
  match isAggT P t with
  | some true => ∃ vs n, v = .agg vs ∧ szOf P t = some n ∧ vs.size = n ∧ ∀ j, j < n → VRel B κ h w (g (off + j)) (vs.getD j undef)
  | some false => VRel B κ h w (g off) v
  | none => False

theorem isAggT_some {t : TypeId} {d : TypeDesc} (hd : P.underlying t = some d) : ∃ b, isAggT P t = some b := by
  unfold isAggT; rw [hd]; cases d <;> exact ⟨_, rfl⟩

theorem part_ok {g : Nat → AV} {off n o m : Nat} {vs : Array Value} {t : TypeId} (hv : ∀ j, j < n → VRel B κ h w (g (off + j)) (vs.getD j undef)) (hn : vs.size = n) (hm : szOf P t = some m) (ho : o + m ≤ n)
    {b : Bool} (hb : isAggT P t = some b) (h1 : b = false → m = 1) : ∃ v, (part t vs o).run P w = .ok v w ∧ Fits P B κ h w g (off + o) t v := by
  cases b with
  | true =>
    refine ⟨.agg (vs.extract o (o + m)), by simp [part, run_isAgg hb, run_szOf hm], ?_⟩
    unfold Fits
    rw [hb]
    refine ⟨_, m, rfl, hm, by simp; omega, fun j hj => ?_⟩
    have h2 := hv (o + j) (by omega)
    have h3 : (vs.extract o (o + m)).getD j undef = vs.getD (o + j) undef := by
      have ha : j < (vs.extract o (o + m)).size := by simp; omega
      have hb' : o + j < vs.size := by omega
      simp only [Array.getD, ha, hb', dif_pos]
      simp
    rw [h3, Nat.add_assoc]
    exact h2
  | false =>
    have hm1 := h1 rfl
    subst hm1
    have hlt : o < vs.size := by omega
    refine ⟨vs.getD o undef, ?_, ?_⟩
    · simp [part, run_isAgg hb, Array.getD, hlt]
    · unfold Fits
      rw [hb]
      exact hv o (by omega)

theorem eqAt_ok : ∀ (d : Nat) {t : TypeId} {gx gy : Nat → AV} {off : Nat} {K : Bool → Option R} {r : R}, eqAt P d t gx gy off K = some r →
    ∀ {x y : Value}, Fits P B κ h w gx off t x → Fits P B κ h w gy off t y → ∀ D, d ≤ D → ∃ b, K b = some r ∧ (Op.equalIn D t x y).run P w = .ok b w
  | 0, t, gx, gy, off, K, r, hr, x, y, hx, hy, D, hD => by simp [eqAt] at hr
  | d + 1, t, gx, gy, off, K, r, hr, x, y, hx, hy, D, hD => by
    obtain ⟨D, rfl⟩ : ∃ D', D = D' + 1 := ⟨D - 1, by omega⟩
    unfold eqAt at hr
    try simp only [cnd_eq] at hr
    split at hr
    · rename_i k hu
      obtain ⟨a, ha, hr⟩ := bind_some hr
      obtain ⟨b, hb, hr⟩ := bind_some hr
      have hg : isAggT P t = some false := by unfold isAggT; rw [hu]
      unfold Fits at hx hy
      rw [hg] at hx hy
      obtain rfl := asIntK_ok ha hx
      obtain rfl := asIntK_ok hb hy
      exact ⟨_, hr, run_equalIn_int w D t k k a b hu⟩
    · rename_i hu
      obtain ⟨a, ha, hr⟩ := bind_some hr
      obtain ⟨b, hb, hr⟩ := bind_some hr
      have hg : isAggT P t = some false := by unfold isAggT; rw [hu]
      unfold Fits at hx hy
      rw [hg] at hx hy
      obtain rfl := asBool_ok ha hx
      obtain rfl := asBool_ok hb hy
      exact ⟨_, hr, run_equalIn_bool w D t a b hu⟩
    · rename_i hu
      obtain ⟨a, ha, hr⟩ := bind_some hr
      obtain ⟨b, hb, hr⟩ := bind_some hr
      have hg : isAggT P t = some false := by unfold isAggT; rw [hu]
      unfold Fits at hx hy
      rw [hg] at hx hy
      obtain rfl := asStr_ok ha hx
      obtain rfl := asStr_ok hb hy
      refine ⟨_, hr, ?_⟩
      rw [run_equalIn_string w D t a b hu, beq_toListBytes]
    · rename_i fs hu
      split at hr
      · rename_i n hn
        obtain ⟨hst, hr⟩ := ite_some hr
        have hg : isAggT P t = some true := by unfold isAggT; rw [hu]
        unfold Fits at hx hy
        rw [hg] at hx hy
        obtain ⟨xs, n1, rfl, hn1, hxs, hvx⟩ := hx
        obtain ⟨ys, n2, rfl, hn2, hys, hvy⟩ := hy
        rw [hn] at hn1 hn2
        cases hn1
        cases hn2
        have hfo : P.fieldsOf t = fs := by simp [Program.fieldsOf, hu]
        rw [run_equalIn_struct w D t xs ys (by rw [hfo]; exact hu) hst, hfo]
        have key : ∀ (l : List Field) (acc : Bool), l.foldr (fun f (K' : Bool → Option R) (acc : Bool) =>
            match szOf P f.type with
            | some m => if f.name ≠ "_" ∧ f.offset + m ≤ n ∧ (isAggT P f.type = some true ∨ isAggT P f.type = some false ∧ m = 1) then eqAt P d f.type gx gy (off + f.offset) fun b => K' (acc && b) else none
            | none => none) K acc = some r → ∃ b, K (acc && b) = some r ∧ (Op.eqFields D xs ys l).run P w = .ok b w := by
          intro l
          induction l with
          | nil => intro acc hl; exact ⟨true, by simpa using hl, by simp [Op.eqFields]⟩
          | cons f l ih =>
            intro acc hl
            simp only [List.foldr_cons] at hl
            split at hl
            · rename_i m hm
              obtain ⟨⟨hname, hle, hag⟩, hl⟩ := ite_some hl
              obtain ⟨bb, hbb, h1⟩ : ∃ bb, isAggT P f.type = some bb ∧ (bb = false → m = 1) := by
                rcases hag with hag | ⟨hag, hm1⟩
                · exact ⟨true, hag, by simp⟩
                · exact ⟨false, hag, fun _ => hm1⟩
              obtain ⟨vx, hpx, hfx⟩ := part_ok (P := P) (o := f.offset) hvx hxs hm hle hbb h1
              obtain ⟨vy, hpy, hfy⟩ := part_ok (P := P) (o := f.offset) hvy hys hm hle hbb h1
              obtain ⟨b, hb, hrun⟩ := eqAt_ok d hl hfx hfy D (by omega)
              obtain ⟨c, hc, hrun2⟩ := ih _ hb
              refine ⟨b && c, by rw [← Bool.and_assoc]; exact hc, ?_⟩
              simp only [Op.eqFields, if_pos hname, Sem.run_bind, hpx, hpy, hrun, Result.andThen_ok]
              cases b
              · simp
              · simpa using hrun2
            · cases hl
        obtain ⟨b, hb, hrun⟩ := key fs.toList true hr
        exact ⟨b, by simpa using hb, hrun⟩
      · cases hr
    · cases hr

theorem eqGuard_ok {op : BinOp} {t : TypeId} {x y : Operand} {v u : Value} (hv : (match v with | .agg _ | .nilIface => false | _ => true) = true) : (eqGuard op t x y v u).run P w = .ok () w := by
  unfold eqGuard
  cases op <;> simp <;> (cases v <;> simp_all)

theorem abin_ok {op : BinOp} {t : TypeId} {x y : AV} {K : AV → Option R} {r : R} (hr : abin P op t x y K = some r) {vx vy : Value} (hx : VRel B κ h w x vx) (hy : VRel B κ h w y vy) (ox oy : Operand) :
    ∃ v val, K v = some r ∧ (do eqGuard op t ox oy vx vy; binOp op t vx vy : Sem Value).run P w = .ok val w ∧ VRel B κ h w v val := by
  unfold abin at hr
  try simp only [cnd_eq] at hr
  split at hr
  · rename_i k hu
    split at hr
    · obtain ⟨a, ha, hr⟩ := bind_some hr
      obtain ⟨b, hb, hr⟩ := bind_some hr
      obtain rfl := asIntK_ok ha hx
      obtain ⟨k', rfl⟩ := asInt_ok hb hy
      obtain ⟨v, val, h1, h2, h3⟩ := ashift_ok (P := P) (B := B) (κ := κ) (h := h) (w := w) (k' := k') hr t
      exact ⟨v, val, h1, by simp [eqGuard_ok, h2], h3⟩
    obtain ⟨a, ha, hr⟩ := bind_some hr
    obtain ⟨b, hb, hr⟩ := bind_some hr
    obtain rfl := asIntK_ok ha hx
    obtain rfl := asIntK_ok hb hy
    obtain ⟨v, val, h1, h2, h3⟩ := aarith_ok (P := P) (B := B) (κ := κ) (h := h) (w := w) hr t
    exact ⟨v, val, h1, by simp [eqGuard_ok, h2], h3⟩
  · rename_i hu
    obtain ⟨a, ha, hr⟩ := bind_some hr
    obtain ⟨b, hb, hr⟩ := bind_some hr
    obtain rfl := asBool_ok ha hx
    obtain rfl := asBool_ok hb hy
    split at hr
    · exact ⟨_, _, hr, by simp [eqGuard_ok, binOp, Op.equal, Op.maxDepth, run_equalIn_bool w 9999 t a b hu], .t _ _ (.bool _)⟩
    · exact ⟨_, _, hr, by simp [eqGuard_ok, binOp, Op.equal, Op.maxDepth, run_equalIn_bool w 9999 t a b hu], .t _ _ (.bool _)⟩
    · cases hr
  · rename_i hu
    obtain ⟨a, ha, hr⟩ := bind_some hr
    obtain ⟨b, hb, hr⟩ := bind_some hr
    obtain rfl := asStr_ok ha hx
    obtain rfl := asStr_ok hb hy
    split at hr
    · exact ⟨_, _, hr, by simp [eqGuard_ok, binOp, Op.stringOp, ← beq_toListBytes], .t _ _ (.bool _)⟩
    · exact ⟨_, _, hr, by simp [eqGuard_ok, binOp, Op.stringOp, ← beq_toListBytes, bne], .t _ _ (.bool _)⟩
    · obtain ⟨hsz, hr⟩ := ite_some hr
      have hn : ¬ (((a.size + b.size : Nat) : Int) > IntKind.i64.max) := by
        have : IntKind.i64.max = 9223372036854775807 := by decide
        rw [this]; omega
      exact ⟨_, _, hr, by simp only [eqGuard_ok, binOp, Op.stringOp, Sem.run_bind, Result.andThen_ok, if_neg hn, Sem.run_pure], .t _ _ (.str _)⟩
    · cases hr
  · rename_i fs hu
    split at hr
    · rename_i xs ys n hn
      obtain ⟨⟨hg, hlx, hly⟩, hr⟩ := ite_some hr
      cases hx with
      | agg _ vx hsx hvx =>
        cases hy with
        | agg _ vy hsy hvy =>
          have hag : isAggT P t = some true := by unfold isAggT; rw [hu]
          have fx : Fits P B κ h w (fun i => xs.getD i .undef) 0 t (.agg vx) := by
            unfold Fits; rw [hag]
            exact ⟨vx, n, rfl, hn, by omega, fun j hj => hvx j _ (by rw [Nat.zero_add]; exact getD_of_lt _ _ _ (by omega))⟩
          have fy : Fits P B κ h w (fun i => ys.getD i .undef) 0 t (.agg vy) := by
            unfold Fits; rw [hag]
            exact ⟨vy, n, rfl, hn, by omega, fun j hj => hvy j _ (by rw [Nat.zero_add]; exact getD_of_lt _ _ _ (by omega))⟩
          split at hr
          · obtain ⟨b, hb, hrun⟩ := eqAt_ok 16 hr fx fy 10000 (by omega)
            exact ⟨_, _, hb, by simp [run_eqGuard_agg w _ t ox oy vx vy hg, run_eql_struct, hrun], .t _ _ (.bool _)⟩
          · obtain ⟨b, hb, hrun⟩ := eqAt_ok 16 hr fx fy 10000 (by omega)
            exact ⟨_, _, hb, by simp [run_eqGuard_agg w _ t ox oy vx vy hg, run_neq_struct, hrun], .t _ _ (.bool _)⟩
          · cases hr
    · cases hr
  · cases hr

theorem aconvert_ok {src dst : TypeId} {x : AV} {K : AV → Option R} {r : R} (hr : aconvert P src dst x K = some r) {vx : Value} (hx : VRel B κ h w x vx) :
    ∃ v val, K v = some r ∧ (convert src dst vx).run P w = .ok val w ∧ VRel B κ h w v val := by
  unfold aconvert at hr
  split at hr
  · rename_i k0 k hs hd
    obtain ⟨n, hn, hr⟩ := bind_some hr
    obtain rfl := asIntK_ok hn hx
    exact ⟨_, _, hr, by simp [convert, run_underlying hs, run_underlying hd, Conv.intToInt], .t _ _ (.int _ _)⟩
  · rename_i hs hd
    obtain ⟨n, hn, hr⟩ := bind_some hr
    obtain rfl := asStr_ok hn hx
    exact ⟨_, _, hr, by simp [convert, run_underlying hs, run_underlying hd], .t _ _ (.str _)⟩
  · cases hr

theorem aun_ok {op : UnOp} {x : AV} {K : AV → Option R} {r : R} (hr : aun op x K = some r) {vx : Value} (hx : VRel B κ h w x vx) :
    ∃ v val, K v = some r ∧ (Op.unary op vx).run P w = .ok val w ∧ VRel B κ h w v val := by
  unfold aun at hr
  split at hr
  · obtain ⟨b, hb, hr⟩ := bind_some hr
    obtain rfl := asBool_ok hb hx
    exact ⟨_, _, hr, by simp [Op.unary], .t _ _ (.bool _)⟩
  · split at hr
    · cases hx with
      | t _ _ ht =>
        cases ht
        exact ⟨_, _, hr, by simp [Op.unary, Op.intArith], .t _ _ (.int _ _)⟩
    · cases hr
  · cases hr

theorem fieldOff_ok {t : TypeId} {f o : Nat} (ho : fieldOff P t f = some o) : ∃ fs fd n, P.underlying t = some (.struct fs) ∧ fs[f]? = some fd ∧ fd.offset = o ∧ szOf P fd.type = some (n + 1) := by
  unfold fieldOff at ho
  split at ho
  · rename_i fs hu
    split at ho
    · rename_i fd hf
      split at ho
      · rename_i n hn
        cases ho
        exact ⟨fs, fd, n, hu, hf, rfl, hn⟩
      · cases ho
    · cases ho
  · cases ho

theorem add_off (b o n : Nat) : Addr.add ⟨b, o, none⟩ n = ⟨b, o + n, none⟩ := by
  unfold Addr.add
  split
  · rename_i h0; subst h0; rfl
  · rfl

theorem run_fieldAt {t : TypeId} {f o : Nat} (ho : fieldOff P t f = some o) (b off : Nat) :
    (Instr.fieldAt t (.pointer (some ⟨b, off, none⟩)) f).run P w = .ok (.pointer (some ⟨b, off + o, none⟩)) w := by
  obtain ⟨fs, fd, n, hu, hf, rfl, hn⟩ := fieldOff_ok ho
  simp [Instr.fieldAt, run_underlying hu, hf, Instr.sureAddr, fieldPlace, run_szOf hn, add_off]

theorem afield_ok {t : TypeId} {a : AV} {f : Nat} {K : AV → Option R} {r : R} (hr : afield P t h a f K = some r) {va : Value} (ha : VRel B κ h w a va) :
    ∃ v val, K v = some r ∧ (Instr.fieldAt t va f).run P w = .ok val w ∧ VRel B κ h w v val := by
  unfold afield at hr
  try simp only [cnd_eq] at hr
  obtain ⟨o, ho, hr1⟩ := bind_some hr
  clear hr
  split at hr1
  · rename_i i off
    cases ha with
    | ptr _ _ b base hk hb => exact ⟨_, _, hr1, run_fieldAt ho b _, by rw [Nat.add_assoc]; exact .ptr i (off + o) b base hk hb⟩
  · rename_i size cells off
    cases ha with
    | eptr _ _ _ b base u h1 h2 h3 h4 h5 => exact ⟨_, _, hr1, run_fieldAt ho b _, by rw [Nat.add_assoc]; exact .eptr size cells (off + o) b base u h1 h2 h3 h4 h5⟩
  · rename_i i ver k off
    obtain ⟨ob, hob, hr2⟩ := bind_some hr1
    obtain ⟨hver, hr3⟩ := ite_some hr2
    cases ha with
    | rptr _ _ _ _ _ h1 h2 h3 =>
      obtain ⟨b, base, hkk, rfl, h4, h5⟩ := h3 ob hob hver
      refine ⟨_, _, hr3, run_fieldAt ho b _, .rptr i ver k (off + o) _ ⟨_, rfl⟩ h2 fun o' ho' hv' => ?_⟩
      rw [hob] at ho'
      cases ho'
      exact ⟨b, base, hkk, by simp [Nat.add_assoc], h4, h5⟩
  · cases hr1

theorem alen_ok {t : TypeId} {x : AV} {K : AV → Option R} {r : R} (hr : alen P t h x K = some r) {vx : Value} (hx : VRel B κ h w x vx) (hh : HRel B κ h w) (ty : TypeId) :
    ∃ v val, K v = some r ∧ (Builtin.len_ #[t] ty #[vx]).run P w = .ok val w ∧ VRel B κ h w v val := by
  unfold alen at hr
  try simp only [cnd_eq] at hr
  split at hr
  · rename_i e hu
    split at hr
    · cases hx with
      | t _ _ ht =>
        obtain ⟨_, a, cap, rfl, _, _⟩ := SlRel.of_tree ht
        exact ⟨_, _, hr, by simp [Builtin.len_, run_underlying hu, goInt], .t _ _ (.int _ _)⟩
    · cases hx
      exact ⟨_, _, hr, by simp [Builtin.len_, run_underlying hu, goInt], .t _ _ (.int _ _)⟩
    · rename_i i ver off len
      split at hr
      · rename_i fz ver' size es hi
        obtain ⟨rfl, hr1⟩ := ite_some hr
        cases hx with
        | sref _ _ _ _ _ _ _ hs =>
          obtain ⟨hl, _, hsl, _⟩ := row_sub hh hi hs
          obtain ⟨_, a, cap, rfl, _, _⟩ := hsl
          rw [hl]
          exact ⟨_, _, hr1, by simp [Builtin.len_, run_underlying hu, goInt], .t _ _ (.int _ _)⟩
      · cases hr
    · cases hx with
      | bsl _ _ _ _ cap b _ _ _ => exact ⟨_, _, hr, by simp [Builtin.len_, run_underlying hu, goInt], .t _ _ (.int _ _)⟩
    · cases hr
  · rename_i hu
    obtain ⟨s, hs, hr⟩ := bind_some hr
    obtain rfl := asStr_ok hs hx
    exact ⟨_, _, hr, by simp [Builtin.len_, run_underlying hu, goInt], .t _ _ (.int _ _)⟩
  · rename_i n e hu
    exact ⟨_, _, hr, by simp [Builtin.len_, run_underlying hu, goInt], .t _ _ (.int _ _)⟩
  · cases hr

theorem run_indexAt_slice {t e : TypeId} {s : Nat} (hu : P.underlying t = some (.slice e)) (hs : szOf P e = some s) (b off len cap : Nat) (k : IntKind) (i : Int) (h0 : 0 ≤ i) (h1 : i < len) :
    (Instr.indexAt t (.slice (some ⟨b, off, none⟩) len cap) (.int k i)).run P w = .ok (.pointer (some ⟨b, off + i.toNat * s, none⟩)) w := by
  simp [Instr.indexAt, asIntOf, run_underlying hu, h0, h1, run_szOf hs, add_off]

theorem run_indexAt_array {t e : TypeId} {n s : Nat} (hu : P.underlying t = some (.array n e)) (hs : szOf P e = some s) (b off : Nat) (k : IntKind) (i : Int) (h0 : 0 ≤ i) (h1 : i < n) :
    (Instr.indexAt t (.pointer (some ⟨b, off, none⟩)) (.int k i)).run P w = .ok (.pointer (some ⟨b, off + i.toNat * s, none⟩)) w := by
  simp [Instr.indexAt, asIntOf, run_underlying hu, Instr.sureAddr, h0, h1, run_szOf hs, add_off]

theorem pickI_ok {i : Int} : ∀ {n : Nat} {K : Nat → Option R} {r : R}, pickI i n K = some r → K i.toNat = some r
  | 0, K, r, h => by simp [pickI] at h
  | n + 1, K, r, h => by
    simp only [pickI, cnd_eq] at h
    split at h
    · rename_i e
      rw [e]
      simpa using h
    · exact pickI_ok h
theorem aindex_ok {t : TypeId} {x ix : AV} {K : AV → Option R} {r : R} (hr : aindex P t h x ix K = some r) {vx vi : Value} (hx : VRel B κ h w x vx) (hi : VRel B κ h w ix vi) (hh : HRel B κ h w) :
    ∃ v val, K v = some r ∧ (Instr.indexAt t vx vi).run P w = .ok val w ∧ VRel B κ h w v val := by
  unfold aindex at hr
  try simp only [cnd_eq] at hr
  obtain ⟨i, hii, hr1⟩ := bind_some hr
  clear hr
  obtain ⟨k, rfl⟩ := asInt_ok hii hi
  split at hr1
  · rename_i e hu
    obtain ⟨s, hs, hr2⟩ := bind_some hr1
    clear hr1
    split at hr2
    · rename_i size es
      obtain ⟨⟨rfl, h0⟩, hr3⟩ := ite_some hr2
      obtain ⟨c, hc, hr4⟩ := bind_some hr3
      clear hr2 hr3
      cases hx with
      | t _ _ ht =>
        have hlt : i.toNat < es.length := (List.getElem?_eq_some_iff.1 hc).1
        cases ht with
        | nil _ cap a => simp at hlt
        | sl _ _ b off cap u h1 h2 h3 h4 h5 h6 =>
          refine ⟨_, _, hr4, run_indexAt_slice hu hs b off es.length cap k i h0 (by omega), ?_⟩
          have he : (.pointer (some ⟨b, off + i.toNat * size, none⟩) : Value) = .pointer (some ⟨b, off + i.toNat * size + 0, none⟩) := rfl
          rw [he]
          refine .eptr size c 0 b (off + i.toNat * size) (u i.toNat) (h4 _ c hc) h2 h3 (fun q y hy => ?_) (fun q y hy => h6 _ c q y hc hy)
          rw [Nat.add_assoc]
          exact h5 _ c q y hc hy
    · rename_i rr ver off len
      split at hr2
      · rename_i fz ver' size es hi'
        obtain ⟨⟨rfl, rfl, h0, h1⟩, hr3⟩ := ite_some hr2
        cases hx with
        | sref _ _ _ _ _ ho hex hsr =>
          obtain ⟨hl, hle, hsl, hbb⟩ := row_sub hh hi' hsr
          rcases hbb with h0' | ⟨b, base, cap, hk, rfl⟩
          · omega
          · refine ⟨_, _, hr3, run_indexAt_slice hu hs b _ len cap k i h0 h1, .rptr _ _ _ _ _ ⟨_, rfl⟩ hex fun o ho' hv' => ?_⟩
            rw [hi'] at ho'
            cases ho'
            refine ⟨b, base, hk, ?_, rfl, ?_⟩
            · simp only [AObj.size, Nat.add_mul]; simp [Nat.add_assoc]
            · simp only [AObj.len]; omega
      · cases hr2
    · rename_i rr off len size
      obtain ⟨⟨rfl, h0, h1⟩, hr3⟩ := ite_some hr2
      have hr3 : K (.ptr rr (off + i.toNat * size)) = some r := by
        split at hr3
        · exact pickI_ok hr3
        · exact hr3
      cases hx with
      | bsl _ _ _ _ cap b hk hbx hlc =>
        obtain ⟨cs, hcs, hcl⟩ := hbx
        refine ⟨_, _, hr3, run_indexAt_slice hu hs b off len cap k i h0 h1, ?_⟩
        have := VRel.ptr (B := B) (w := w) rr (off + i.toNat * size) b 0 hk ⟨cs, hcs⟩
        simpa using this
    · cases hr2
  · rename_i n e hu
    obtain ⟨s, hs, hr2⟩ := bind_some hr1
    clear hr1
    split at hr2
    · rename_i rr off
      obtain ⟨⟨h0, h1⟩, hr3⟩ := ite_some hr2
      have hr3 : K (.ptr rr (off + i.toNat * s)) = some r := by
        split at hr3
        · exact pickI_ok hr3
        · exact hr3
      cases hx with
      | ptr _ _ b base hk hb =>
        refine ⟨_, _, hr3, run_indexAt_array hu hs b _ k i h0 h1, ?_⟩
        rw [Nat.add_assoc]
        exact .ptr _ _ b base hk hb
    · cases hr2
  · cases hr1

def VOpt (B : Nat → Prop) (κ : KMap) (h : Heap) (w : World) : Option AV → Option Value → Prop
  | none, none => True
  | some a, some v => VRel B κ h w a v
  | _, _ => False

/-- A bound of a slice expression: n. -/
def IsBound (d hi n : Nat) : Option Value → Prop
  | none => n = d
  | some v => ∃ k, v = .int k n ∧ n ≤ hi

theorem abound_ok {x : Option AV} {d hi : Nat} {K : Nat → Option R} {r : R} (hr : abound x d hi K = some r) {y : Option Value} (hy : VOpt B κ h w x y) :
    ∃ n, K n = some r ∧ IsBound d hi n y := by
  unfold abound at hr
  try simp only [cnd_eq] at hr
  split at hr
  · cases y with
    | none => exact ⟨d, hr, rfl⟩
    | some v => exact hy.elim
  · cases y with
    | none => exact hy.elim
    | some v =>
      obtain ⟨i, hii, hr1⟩ := bind_some hr
      obtain ⟨⟨h0, h1⟩, hr2⟩ := ite_some hr1
      obtain ⟨k, rfl⟩ := asInt_ok hii hy
      exact ⟨i.toNat, hr2, k, by rw [Int.toNat_of_nonneg h0], by omega⟩

theorem run_sliceBounds {isS : Bool} {len hm cap a b : Nat} {lo hi : Option Value} (hlc : hm ≤ cap)
    (hb : IsBound len hm b hi) (ha : IsBound 0 b a lo) :
    (Instr.sliceBounds isS len cap lo hi none).run P w = .ok (a, b, cap) w := by
  cases hi with
  | none =>
    simp only [IsBound] at hb
    subst hb
    cases lo with
    | none => simp only [IsBound] at ha; subst ha; simp [Instr.sliceBounds]
    | some v =>
      obtain ⟨k, rfl, hle⟩ := ha
      simp [Instr.sliceBounds, Instr.sliceBound, asIntOf, hle]
  | some v =>
    obtain ⟨k, rfl, hle⟩ := hb
    have h2 : b ≤ cap := by omega
    cases lo with
    | none => simp only [IsBound] at ha; subst ha; simp [Instr.sliceBounds, Instr.sliceBound, asIntOf, h2]
    | some v =>
      obtain ⟨k', rfl, hle'⟩ := ha
      simp [Instr.sliceBounds, Instr.sliceBound, asIntOf, h2, hle']

theorem run_sliceBounds3 {isS : Bool} {len cap a b m d0 d1 hm : Nat} {lo : Option Value} {vb vm : Value} (hlc : hm ≤ cap) (hmx : IsBound d0 hm m (some vm))
    (hb : IsBound d1 m b (some vb)) (ha : IsBound 0 b a lo) : (Instr.sliceBounds isS len cap lo (some vb) (some vm)).run P w = .ok (a, b, m) w := by
  obtain ⟨k, rfl, hle⟩ := hmx
  obtain ⟨k', rfl, hle'⟩ := hb
  have h2 : m ≤ cap := by omega
  cases lo with
  | none => simp only [IsBound] at ha; subst ha; simp [Instr.sliceBounds, Instr.sliceBound, asIntOf, h2, hle']
  | some v =>
    obtain ⟨k3, rfl, hle3⟩ := ha
    simp [Instr.sliceBounds, Instr.sliceBound, asIntOf, h2, hle', hle3]

theorem aslice_ok {t : TypeId} {x : AV} {lo hi mx : Option AV} {K : AV → Option R} {r : R} (hr : aslice P t h x lo hi mx K = some r) {vx : Value} {vl vh vm : Option Value} (hx : VRel B κ h w x vx)
    (hl : VOpt B κ h w lo vl) (hhi : VOpt B κ h w hi vh)
    (hm : VOpt B κ h w mx vm) (hh : HRel B κ h w) :
    ∃ v val, K v = some r ∧ (Instr.sliceAt t vx vl vh vm).run P w = .ok val w ∧ VRel B κ h w v val := by
  unfold aslice at hr
  try simp only [cnd_eq] at hr
  split at hr
  · rename_i hu
    cases vm with
    | some v => exact hm.elim
    | none =>
      obtain ⟨s, hs, hr1⟩ := bind_some hr
      obtain rfl := asStr_ok hs hx
      obtain ⟨b, hr2, hb⟩ := abound_ok hr1 hhi
      obtain ⟨a, hr3, ha⟩ := abound_ok hr2 hl
      have := run_sliceBounds (P := P) (w := w) (isS := false) (Nat.le_refl s.size) hb ha
      exact ⟨_, _, hr3, by simp [Instr.sliceAt, Instr.slice, run_underlying hu, this], .t _ _ (.str _)⟩
  · rename_i e hu
    cases vm with
    | some v => exact hm.elim
    | none =>
      obtain ⟨z, hz, hr1⟩ := bind_some hr
      clear hr
      split at hr1
      · rename_i size es
        obtain ⟨rfl, hr2⟩ := ite_some hr1
        obtain ⟨b, hr3, hb⟩ := abound_ok hr2 hhi
        obtain ⟨a, hr4, ha⟩ := abound_ok hr3 hl
        have hbl : b ≤ es.length := by
          cases vh with
          | none => simp only [IsBound] at hb; omega
          | some v => obtain ⟨_, _, h⟩ := hb; exact h
        have hab : a ≤ b := by
          cases vl with
          | none => simp only [IsBound] at ha; omega
          | some v => obtain ⟨_, _, h⟩ := ha; exact h
        cases hx with
        | t _ _ ht =>
          have hlen : ((es.take b).drop a).length = b - a := by simp; omega
          cases ht with
          | nil _ cap ad =>
            simp only [List.length_nil] at hbl hb
            have := run_sliceBounds (P := P) (w := w) (isS := true) (len := 0) (cap := cap) (Nat.zero_le _) (by simpa using hb) ha
            obtain rfl : b = 0 := by omega
            obtain rfl : a = 0 := by omega
            refine ⟨_, _, hr4, by simp [Instr.sliceAt, Instr.slice, run_underlying hu, this, run_szOf hz]; rfl, ?_⟩
            simp
            exact .t _ _ (.nil _ _ _)
          | sl _ _ bl off cap u h1 h2 h3 h4 h5 h6 =>
            have := run_sliceBounds (P := P) (w := w) (isS := true) (cap := cap) h1 hb ha
            refine ⟨_, .slice (if cap = a then some ⟨bl, off, none⟩ else some ⟨bl, off + a * size, none⟩) (b - a) (cap - a), hr4, ?_, .t _ _ ?_⟩
            · simp [Instr.sliceAt, Instr.slice, run_underlying hu, this, run_szOf hz, add_off]
            · rw [← hlen]
              by_cases hba : b - a = 0
              · have hnil : (es.take b).drop a = [] := List.eq_nil_of_length_eq_zero (by omega)
                rw [hnil]
                exact .nil _ _ _
              · rw [if_neg (by omega)]
                have hidx : ∀ (j : Nat) (e : List Tree), ((es.take b).drop a)[j]? = some e → es[a + j]? = some e := fun j e he => by
                  rw [List.getElem?_drop] at he
                  rcases Nat.lt_or_ge (a + j) b with hlt | hge
                  · rw [List.getElem?_take_of_lt hlt] at he; exact he
                  · simp [List.getElem?_take, Nat.not_lt.2 hge] at he
                refine .sl size _ bl (off + a * size) (cap - a) (fun j c => u (a + j) c) (by omega) h2 h3 (fun j e he => h4 _ e (hidx j e he)) (fun j e c y he hy => ?_) (fun j e c y he hy => h6 _ e c y (hidx j e he) hy)
                have := h5 _ e c y (hidx j e he) hy
                rw [Nat.add_mul] at this
                rw [← this]
                congr 2
                omega
      · obtain ⟨b, hr3, hb⟩ := abound_ok hr1 hhi
        obtain ⟨a, hr4, ha⟩ := abound_ok hr3 hl
        cases hx
        have hb0 : b = 0 := by
          cases vh with
          | none => exact hb
          | some v => obtain ⟨_, _, h⟩ := hb; omega
        subst hb0
        have ha0 : a = 0 := by
          cases vl with
          | none => exact ha
          | some v => obtain ⟨_, _, h⟩ := ha; omega
        subst ha0
        have := run_sliceBounds (P := P) (w := w) (isS := true) (Nat.le_refl 0) hb ha
        exact ⟨_, _, hr4, by simp [Instr.sliceAt, Instr.slice, run_underlying hu, this, run_szOf hz]; rfl, .nilsl _⟩
      · rename_i i ver off len
        split at hr1
        · rename_i fz ver' size es hi'
          obtain ⟨⟨rfl, hsz⟩, hr2⟩ := ite_some hr1
          clear hr1
          obtain ⟨b, hr3, hb⟩ := abound_ok hr2 hhi
          obtain ⟨a, hr4, ha⟩ := abound_ok hr3 hl
          have hab : a ≤ b := by
            cases vl with
            | none => simp only [IsBound] at ha; omega
            | some v => obtain ⟨_, _, h⟩ := ha; exact h
          cases hx with
          | sref _ _ _ _ _ ho hex hsr =>
            obtain ⟨kk, hkk⟩ := kap_some hh hi'
            obtain ⟨hk2, hle, hmm⟩ := hsr kk _ hkk hi' rfl
            simp only [AObj.len] at hle
            have hbl : b ≤ es.length - off := by
              cases vh with
              | none => simp only [IsBound] at hb; omega
              | some v => obtain ⟨_, _, h⟩ := hb; exact h
            cases kk with
            | none =>
              obtain ⟨a0, rfl⟩ := hmm
              have hes : es = [] := hh.obj i _ _ hi' hkk
              subst hes
              simp only [List.length_nil] at hle hbl hb
              obtain rfl : len = 0 := by omega
              obtain rfl : b = 0 := by omega
              obtain rfl : a = 0 := by omega
              have := run_sliceBounds (P := P) (w := w) (isS := true) (len := 0) (cap := 0) (by omega) hb ha
              rw [if_pos (.inr rfl)] at hr4
              refine ⟨_, .slice a0 0 0, hr4, by simp [Instr.sliceAt, Instr.slice, run_underlying hu, this, run_szOf hz], .sref _ _ _ _ _ rfl hex fun k o hk ho' hv => ?_⟩
              rw [hkk] at hk
              cases hk
              rw [hi'] at ho'
              cases ho'
              exact ⟨rfl, by simpa [AObj.len] using hle, ⟨_, rfl⟩⟩
            | some p =>
              obtain ⟨bl, base⟩ := p
              obtain ⟨cap, rfl, hcap, hcs⟩ := hmm
              simp only [AObj.len] at hcap
              have := run_sliceBounds (P := P) (w := w) (isS := true) (len := len) (cap := cap) (by omega) hb ha
              have hrun : (Instr.sliceAt t (.slice (some ⟨bl, base + off * (AObj.row fz ver' size es).size, none⟩) len cap) vl vh none).run P w = .ok (.slice (if cap = a then some ⟨bl, base + off * size, none⟩ else some ⟨bl, base + off * size + a * z, none⟩) (b - a) (cap - a)) w := by
                simp [Instr.sliceAt, Instr.slice, run_underlying hu, this, run_szOf hz, add_off, AObj.size]
              by_cases hc : a < es.length - off ∨ a = 0
              · rw [if_pos hc] at hr4
                refine ⟨_, _, hr4, hrun, .sref _ _ _ _ _ rfl hex fun k o hk ho' hv => ?_⟩
                rw [hkk] at hk
                cases hk
                rw [hi'] at ho'
                cases ho'
                refine ⟨rfl, by simp only [AObj.len]; omega, cap - a, ?_, by simp only [AObj.len]; omega, fun cells elem fr hcell => ?_⟩
                · rcases hc with hc | hc
                  · rw [if_neg (by omega)]
                    simp only [AObj.size]
                    rcases hsz with rfl | hsz
                    · rw [Nat.add_mul]; simp [Nat.add_assoc]
                    · have : es = [] := row_zero hh hi' hsz
                      subst this
                      simp at hc
                  · subst hc
                    simp only [AObj.size]
                    split <;> simp
                · have := hcs cells elem fr hcell
                  rw [show off + a + (cap - a) = off + cap from by omega]
                  exact this
              · rw [if_neg hc] at hr4
                refine ⟨_, _, hr4, hrun, .t _ _ ?_⟩
                rw [show b - a = 0 from by omega]
                exact .nil _ _ _
        · cases hr1
      · cases hr1
  · rename_i m e hu
    cases vm with
    | none => exact hm.elim
    | some vm =>
      obtain ⟨z, hz, hr1⟩ := bind_some hr
      clear hr
      split at hr1
      · rename_i size es bv
        cases vh with
        | none => exact hhi.elim
        | some vb =>
          obtain ⟨rfl, hr2⟩ := ite_some hr1
          obtain ⟨m', hr3, hm'⟩ := abound_ok hr2 (y := some vm) hm
          obtain ⟨b, hr4, hb⟩ := abound_ok hr3 (y := some vb) hhi
          obtain ⟨a, hr5, ha⟩ := abound_ok hr4 hl
          cases hx with
          | t _ _ ht =>
            cases ht with
            | nil _ cap ad =>
              have := run_sliceBounds3 (P := P) (w := w) (isS := true) (len := 0) (cap := cap) (Nat.zero_le _) hm' hb ha
              exact ⟨_, _, hr5, by simp [Instr.sliceAt, Instr.slice, run_underlying hu, this, run_szOf hz]; rfl, .undef _⟩
            | sl _ _ bl off cap u h1 h2 h3 h4 h5 h6 =>
              have := run_sliceBounds3 (P := P) (w := w) (isS := true) (len := es.length) (cap := cap) h1 hm' hb ha
              exact ⟨_, _, hr5, by simp [Instr.sliceAt, Instr.slice, run_underlying hu, this, run_szOf hz]; rfl, .undef _⟩
      · rename_i bv
        cases vh with
        | none => exact hhi.elim
        | some vb =>
          obtain ⟨m', hr3, hm'⟩ := abound_ok hr1 (y := some vm) hm
          obtain ⟨b, hr4, hb⟩ := abound_ok hr3 (y := some vb) hhi
          obtain ⟨a, hr5, ha⟩ := abound_ok hr4 hl
          cases hx
          have := run_sliceBounds3 (P := P) (w := w) (isS := true) (len := 0) (cap := 0) (Nat.le_refl 0) hm' hb ha
          exact ⟨_, _, hr5, by simp [Instr.sliceAt, Instr.slice, run_underlying hu, this, run_szOf hz]; rfl, .undef _⟩
      · rename_i i ver off len bv
        split at hr1
        · rename_i fz ver' size es hi'
          cases vh with
          | none => exact hhi.elim
          | some vb =>
            obtain ⟨rfl, hr2⟩ := ite_some hr1
            obtain ⟨m', hr3, hm'⟩ := abound_ok hr2 (y := some vm) hm
            obtain ⟨b, hr4, hb⟩ := abound_ok hr3 (y := some vb) hhi
            obtain ⟨a, hr5, ha⟩ := abound_ok hr4 hl
            cases hx with
            | sref _ _ _ _ _ ho hex hsr =>
              obtain ⟨kk, hkk⟩ := kap_some hh hi'
              obtain ⟨hk2, hle, hmm⟩ := hsr kk _ hkk hi' rfl
              simp only [AObj.len] at hle
              cases kk with
              | none =>
                obtain ⟨a0, rfl⟩ := hmm
                have hes : es = [] := hh.obj i _ _ hi' hkk
                subst hes
                have := run_sliceBounds3 (P := P) (w := w) (isS := true) (len := 0) (cap := 0) (by simp) hm' hb ha
                exact ⟨_, _, hr5, by simp [Instr.sliceAt, Instr.slice, run_underlying hu, this, run_szOf hz]; rfl, .undef _⟩
              | some p =>
                obtain ⟨bl, base⟩ := p
                obtain ⟨cap, rfl, hcap, hcs⟩ := hmm
                simp only [AObj.len] at hcap
                have := run_sliceBounds3 (P := P) (w := w) (isS := true) (len := len) (cap := cap) (by omega) hm' hb ha
                exact ⟨_, _, hr5, by simp [Instr.sliceAt, Instr.slice, run_underlying hu, this, run_szOf hz]; rfl, .undef _⟩
        · cases hr1
      · cases hr1
  · cases hr

end Ab
