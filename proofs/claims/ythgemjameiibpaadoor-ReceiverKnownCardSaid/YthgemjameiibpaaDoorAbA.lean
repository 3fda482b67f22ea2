/- The abstract values, the abstract heap, and how they stand for the model's values and memory. -/
import Derived.RangeFuncIn
import Derived.Laws.Sem
import Derived.Laws.World
import Derived.Laws.Cells
import Derived.Below
namespace Ab
open Go

/-- Immutable data. -/
inductive Tree where
  | int (k : IntKind) (n : Int)
  | bool (b : Bool)
  | str (s : ByteArray)
  | sl (size : Nat) (es : List (List Tree))
  | const (v : Value)
  /-- a map of functions -/
  | mp (k : IntKind) (m : List (Int × Nat))
  deriving Inhabited

/-- A value of the model that stands for a tree: what it leads to lies in blocks that 'A' does not hold. -/
inductive TRel (w : World) (A : Nat → Prop) : Tree → Value → Prop
  | int (k : IntKind) (n : Int) : TRel w A (.int k n) (.int k n)
  | bool (b : Bool) : TRel w A (.bool b) (.bool b)
  | str (s : ByteArray) : TRel w A (.str s) (.string s)
  | const (v : Value) : v.oneCell' = true → TRel w A (.const v) v
  | mp (k : IntKind) (m : List (Int × Nat)) (b : Nat) (es : Array MapEntry) (clock : Nat) : b < w.heap.size → ¬ A b → w.heap[b]? = some (.map es clock) →
      es.toList.map (fun e => (e.key, e.val)) = m.map (fun p => (.int k p.1, .func (.func p.2) #[] #[])) → TRel w A (.mp k m) (.map (some b))
  | nil (size cap : Nat) (a : Option Addr) : TRel w A (.sl size []) (.slice a 0 cap)
  | sl (size : Nat) (es : List (List Tree)) (b off cap : Nat) (u : Nat → Nat → Value) : es.length ≤ cap → b < w.heap.size → ¬ A b →
      (∀ (j : Nat) (e : List Tree), es[j]? = some e → e.length = size) →
      (∀ (j : Nat) (e : List Tree) (c : Nat) (x : Tree), es[j]? = some e → e[c]? = some x → w.cell? ⟨b, off + (j * size + c), none⟩ = some (u j c)) →
      (∀ (j : Nat) (e : List Tree) (c : Nat) (x : Tree), es[j]? = some e → e[c]? = some x → TRel w A x (u j c)) →
      TRel w A (.sl size es) (.slice (some ⟨b, off, none⟩) es.length cap)

theorem cell_of_heap {w w' : World} {b o : Nat} (h : w'.heap[b]? = w.heap[b]?) : w'.cell? ⟨b, o, none⟩ = w.cell? ⟨b, o, none⟩ := by
  simp only [World.cell?, h]

theorem TRel.mono {w w' : World} {A A' : Nat → Prop} (hs : w.heap.size ≤ w'.heap.size)
    (hk : ∀ b, b < w.heap.size → ¬ A b → w'.heap[b]? = w.heap[b]?) (hA : ∀ b, A' b → A b ∨ w.heap.size ≤ b)
    {x : Tree} {v : Value} (h : TRel w A x v) : TRel w' A' x v := by
  induction h with
  | int k n => exact .int k n
  | bool b => exact .bool b
  | str s => exact .str s
  | const v h => exact .const v h
  | mp k m b es clock h1 h2 h3 h4 =>
    refine .mp k m b es clock (Nat.lt_of_lt_of_le h1 hs) (fun h => ?_) ((hk b h1 h2).trans h3) h4
    rcases hA b h with h | h
    · exact h2 h
    · omega
  | nil size cap a => exact .nil size cap a
  | sl size es b off cap u h1 h2 h3 h4 h5 _ ih =>
    refine .sl size es b off cap u h1 (Nat.lt_of_lt_of_le h2 hs) (fun h => ?_) h4 (fun j e c x he hx => ?_) ih
    · rcases hA b h with h | h
      · exact h3 h
      · omega
    · rw [cell_of_heap (hk b h2 h3)]; exact h5 j e c x he hx

theorem TRel.one {w : World} {A : Nat → Prop} {x : Tree} {v : Value} (h : TRel w A x v) : v.oneCell' = true := by
  cases h <;> first | rfl | assumption

/-- Abstract values: 'eptr': into an element of an immutable slice; 'rptr', 'sref': into a row of the abstract heap; 'bsl': a slice over a box. -/
inductive AV where
  | undef
  | t (x : Tree)
  | nilsl
  | ptr (i off : Nat)
  | rptr (i ver k off : Nat)
  | eptr (size : Nat) (cells : List Tree) (off : Nat)
  | sref (i ver off len : Nat)
  | bsl (i off len size : Nat)
  | yld (i : Nat)
  | func (fn : Fn) (first captured : List AV)
  | agg (cs : List AV)
  | tuple (vs : List AV)
  deriving Inhabited

abbrev Env := Nat → AV

/-- The record of a range over a function: what a round runs. -/
structure LoopRec where
  fn : FuncId
  size : Nat
  env : Env
  params : List Tmp
  assign : Code
  body : Code
  busy : Bool
  pending : Option Code
  ended : Bool
  hl : Nat
  deriving Inhabited

/-- Abstract objects. -/
inductive AObj where
  | box (cs : List AV)
  | row (frz : Bool) (ver size : Nat) (es : List (List Tree))
  | loop (l : LoopRec)
  deriving Inhabited

abbrev Heap := List AObj
/-- Of each abstract object: its block, and where in it it begins; none: a row that has no memory yet. -/
abbrev KMap := List (Option (Nat × Nat))

def AObj.ver : AObj → Nat
  | .row _ v _ _ => v
  | _ => 0
def AObj.len : AObj → Nat
  | .row _ _ _ es => es.length
  | .box cs => cs.length
  | _ => 0
def AObj.size : AObj → Nat
  | .row _ _ s _ => s
  | _ => 0
def AObj.isFrz : AObj → Bool
  | .row f _ _ _ => f
  | _ => false
def AObj.kind : AObj → Nat
  | .box _ => 0
  | .loop _ => 1
  | _ => 2
def AObj.rec? : AObj → Option LoopRec
  | .loop l => some { l with busy := false, pending := none, ended := false }
  | _ => none

/-- The blocks that only the abstract heap may turn. -/
def Ex (κ : KMap) (h : Heap) (b : Nat) : Prop := ∃ (i base : Nat) (o : AObj), κ[i]? = some (some (b, base)) ∧ h[i]? = some o ∧ o.isFrz = false

/-- A slice over a row of the abstract heap. -/
def SRef (κ : KMap) (h : Heap) (w : World) (i ver off len : Nat) (v : Value) : Prop :=
  ∀ (k : Option (Nat × Nat)) (o : AObj), κ[i]? = some k → h[i]? = some o → o.ver = ver → o.kind = 2 ∧ off + len ≤ o.len ∧ match k with
    | none => ∃ a, v = .slice a 0 0
    | some (b, base) => ∃ cap, v = .slice (some ⟨b, base + off * o.size, none⟩) len cap ∧ o.len ≤ off + cap ∧
        ∀ cells elem fr, w.heap[b]? = some (.cells cells elem fr) → base + (off + cap) * o.size ≤ cells.size

/-- All references of a value lead below m. -/
inductive Refs (m : Nat) : AV → Prop
  | undef : Refs m .undef
  | t (x : Tree) : Refs m (.t x)
  | nilsl : Refs m .nilsl
  | ptr (i off : Nat) : i < m → Refs m (.ptr i off)
  | rptr (i ver k off : Nat) : i < m → Refs m (.rptr i ver k off)
  | eptr (size : Nat) (cells : List Tree) (off : Nat) : Refs m (.eptr size cells off)
  | sref (i ver off len : Nat) : i < m → Refs m (.sref i ver off len)
  | bsl (i off len size : Nat) : i < m → Refs m (.bsl i off len size)
  | yld (i : Nat) : i < m → Refs m (.yld i)
  | func (fn : Fn) (first captured : List AV) : (∀ (j : Nat) (x : AV), first[j]? = some x → Refs m x) → (∀ (j : Nat) (x : AV), captured[j]? = some x → Refs m x) → Refs m (.func fn first captured)
  | agg (xs : List AV) : (∀ (j : Nat) (x : AV), xs[j]? = some x → Refs m x) → Refs m (.agg xs)
  | tuple (xs : List AV) : (∀ (j : Nat) (x : AV), xs[j]? = some x → Refs m x) → Refs m (.tuple xs)

inductive VRel (B : Nat → Prop) (κ : KMap) (h : Heap) (w : World) : AV → Value → Prop
  | undef (v : Value) : VRel B κ h w .undef v
  | t (x : Tree) (v : Value) : TRel w (fun b => B b ∨ Ex κ h b) x v → VRel B κ h w (.t x) v
  | nilsl (a : Option Addr) : VRel B κ h w .nilsl (.slice a 0 0)
  | ptr (i off b base : Nat) : κ[i]? = some (some (b, base)) → (∃ cs, h[i]? = some (.box cs)) → VRel B κ h w (.ptr i off) (.pointer (some ⟨b, base + off, none⟩))
  | rptr (i ver k off : Nat) (v : Value) : (∃ p, v = .pointer (some p)) → (∃ o, h[i]? = some o ∧ ver ≤ o.ver) →
      (∀ o : AObj, h[i]? = some o → o.ver = ver → ∃ b base, κ[i]? = some (some (b, base)) ∧ v = .pointer (some ⟨b, base + (k * o.size + off), none⟩) ∧ o.kind = 2 ∧ k < o.len) → VRel B κ h w (.rptr i ver k off) v
  | eptr (size : Nat) (cells : List Tree) (off b base : Nat) (u : Nat → Value) : cells.length = size → b < w.heap.size → ¬ (B b ∨ Ex κ h b) →
      (∀ c x, cells[c]? = some x → w.cell? ⟨b, base + c, none⟩ = some (u c)) →
      (∀ c x, cells[c]? = some x → TRel w (fun b => B b ∨ Ex κ h b) x (u c)) → VRel B κ h w (.eptr size cells off) (.pointer (some ⟨b, base + off, none⟩))
  | sref (i ver off len : Nat) (v : Value) : v.oneCell' = true → (∃ o, h[i]? = some o ∧ ver ≤ o.ver) → SRef κ h w i ver off len v → VRel B κ h w (.sref i ver off len) v
  | bsl (i off len size cap b : Nat) : κ[i]? = some (some (b, 0)) → (∃ cs, h[i]? = some (.box cs) ∧ off + cap * size ≤ cs.length) → len ≤ cap → VRel B κ h w (.bsl i off len size) (.slice (some ⟨b, off, none⟩) len cap)
  | yld (i b base : Nat) : κ[i]? = some (some (b, base)) → (∃ l, h[i]? = some (.loop l)) → VRel B κ h w (.yld i) (.func (.yield b) #[] #[])
  | func (fn : Fn) (first captured : List AV) (fs cs : Array Value) : fs.size = first.length → cs.size = captured.length →
      (∀ j x, first[j]? = some x → VRel B κ h w x (fs.getD j undef)) → (∀ j x, captured[j]? = some x → VRel B κ h w x (cs.getD j undef)) → VRel B κ h w (.func fn first captured) (.func fn fs cs)
  | agg (xs : List AV) (vs : Array Value) : vs.size = xs.length → (∀ j x, xs[j]? = some x → VRel B κ h w x (vs.getD j undef)) → VRel B κ h w (.agg xs) (.agg vs)
  | tuple (xs : List AV) (vs : Array Value) : vs.size = xs.length → (∀ j x, xs[j]? = some x → VRel B κ h w x (vs.getD j undef)) → VRel B κ h w (.tuple xs) (.tuple vs)

/-- What one object may become. -/
def OLe (o o' : AObj) : Prop := o.kind = o'.kind ∧ o.ver ≤ o'.ver ∧ (o.ver = o'.ver → o.size = o'.size ∧ o.len = o'.len) ∧ (o.isFrz = true → o' = o) ∧ (o.kind = 0 → o'.len = o.len) ∧ o'.rec? = o.rec?

theorem OLe.refl (o : AObj) : OLe o o := ⟨rfl, Nat.le_refl _, fun _ => ⟨rfl, rfl⟩, fun _ => rfl, fun _ => rfl, rfl⟩
theorem OLe.trans {a b c : AObj} (h : OLe a b) (k : OLe b c) : OLe a c := by
  refine ⟨h.1.trans k.1, Nat.le_trans h.2.1 k.2.1, fun e => ?_, fun e => ?_, fun e => (k.2.2.2.2.1 (h.1 ▸ e)).trans (h.2.2.2.2.1 e), k.2.2.2.2.2.trans h.2.2.2.2.2⟩
  · have h1 := h.2.1
    have k1 := k.2.1
    have x := h.2.2.1 (by omega)
    have y := k.2.2.1 (by omega)
    exact ⟨x.1.trans y.1, x.2.trans y.2⟩
  · have hb := h.2.2.2.1 e
    rw [hb] at k
    exact k.2.2.2.1 e

/-- From one state to a later one. -/
structure Ext (κ : KMap) (h : Heap) (w : World) (κ' : KMap) (h' : Heap) (w' : World) : Prop where
  os : w'.os = w.os
  tape : w'.tape = w.tape
  output : w'.output = w.output
  size : w.heap.size ≤ w'.heap.size
  keep : ∀ b, b < w.heap.size → ¬ Ex κ h b → w'.heap[b]? = w.heap[b]?
  ex : ∀ b, Ex κ' h' b → Ex κ h b ∨ w.heap.size ≤ b
  obj : ∀ (i : Nat) (o : AObj), h[i]? = some o → ∃ o' : AObj, h'[i]? = some o' ∧ OLe o o'
  kap : ∀ (i : Nat) (o o' : AObj), h[i]? = some o → h'[i]? = some o' → o.ver = o'.ver → κ'[i]? = κ[i]?
  cells : ∀ (i : Nat) (o o' : AObj), h[i]? = some o → h'[i]? = some o' → o.ver = o'.ver → ∀ (b base : Nat), κ[i]? = some (some (b, base)) →
    ∀ cells elem fr, w'.heap[b]? = some (.cells cells elem fr) → ∃ cells', w.heap[b]? = some (.cells cells' elem fr) ∧ cells'.size = cells.size

theorem Ext.refl (κ : KMap) (h : Heap) (w : World) : Ext κ h w κ h w :=
  ⟨rfl, rfl, rfl, Nat.le_refl _, fun _ _ _ => rfl, fun _ h => .inl h, fun _ o ho => ⟨o, ho, .refl o⟩, fun _ _ _ _ _ _ => rfl, fun _ _ _ _ _ _ _ _ _ cells _ _ hc => ⟨cells, hc, rfl⟩⟩

theorem Ext.trans {κ κ₁ κ₂ : KMap} {h h₁ h₂ : Heap} {w w₁ w₂ : World} (x : Ext κ h w κ₁ h₁ w₁) (y : Ext κ₁ h₁ w₁ κ₂ h₂ w₂) : Ext κ h w κ₂ h₂ w₂ where
  os := y.os.trans x.os
  tape := y.tape.trans x.tape
  output := y.output.trans x.output
  size := Nat.le_trans x.size y.size
  keep := fun b hb hn => by
    refine (y.keep b (Nat.lt_of_lt_of_le hb x.size) fun he => ?_).trans (x.keep b hb hn)
    rcases x.ex b he with h | h
    · exact hn h
    · omega
  ex := fun b hb => by
    rcases y.ex b hb with h | h
    · exact x.ex b h
    · exact .inr (Nat.le_trans x.size h)
  obj := fun i o ho => by
    obtain ⟨o1, h1, l1⟩ := x.obj i o ho
    obtain ⟨o2, h2, l2⟩ := y.obj i o1 h1
    exact ⟨o2, h2, l1.trans l2⟩
  kap := fun i o o2 ho ho2 he => by
    obtain ⟨o1, h1, l1⟩ := x.obj i o ho
    obtain ⟨o2', h2, l2⟩ := y.obj i o1 h1
    obtain rfl : o2' = o2 := by rw [h2] at ho2; exact Option.some.inj ho2
    have a1 := l1.2.1
    have a2 := l2.2.1
    exact (y.kap i o1 o2' h1 h2 (by omega)).trans (x.kap i o o1 ho h1 (by omega))
  cells := fun i o o2 ho ho2 he b base hb cells elem fr hc => by
    obtain ⟨o1, h1, l1⟩ := x.obj i o ho
    obtain ⟨o2', h2, l2⟩ := y.obj i o1 h1
    obtain rfl : o2' = o2 := by rw [h2] at ho2; exact Option.some.inj ho2
    have a1 := l1.2.1
    have a2 := l2.2.1
    have k1 := x.kap i o o1 ho h1 (by omega)
    obtain ⟨c1, hc1, s1⟩ := y.cells i o1 o2' h1 h2 (by omega) b base (k1.trans hb) cells elem fr hc
    obtain ⟨c0, hc0, s0⟩ := x.cells i o o1 ho h1 (by omega) b base hb c1 elem fr hc1
    exact ⟨c0, hc0, s0.trans s1⟩

theorem cell_keep {κ κ' : KMap} {h h' : Heap} {w w' : World} (x : Ext κ h w κ' h' w') {b o : Nat} (hb : b < w.heap.size) (hn : ¬ Ex κ h b) : w'.cell? ⟨b, o, none⟩ = w.cell? ⟨b, o, none⟩ :=
  cell_of_heap (x.keep b hb hn)

theorem TRel.ext {B : Nat → Prop} {κ κ' : KMap} {h h' : Heap} {w w' : World} (x : Ext κ h w κ' h' w') {t : Tree} {v : Value} (ht : TRel w (fun b => B b ∨ Ex κ h b) t v) : TRel w' (fun b => B b ∨ Ex κ' h' b) t v :=
  ht.mono x.size (fun b hb hn => x.keep b hb fun he => hn (.inr he)) fun b hb => by
    rcases hb with hb | hb
    · exact .inl (.inl hb)
    · rcases x.ex b hb with h | h
      · exact .inl (.inr h)
      · exact .inr h

/-- The concrete memory of one object. -/
def ORel (B : Nat → Prop) (κ : KMap) (h : Heap) (w : World) : Option (Nat × Nat) → AObj → Prop
  | some (b, base), .box cs => base = 0 ∧ ∃ cells elem, w.heap[b]? = some (.cells cells elem (0, 0)) ∧ cells.size = cs.length ∧ ∀ j x, cs[j]? = some x → VRel B κ h w x (cells.getD j undef)
  | some (b, base), .row _ _ size es => size ≠ 0 ∧ ∃ cells elem, w.heap[b]? = some (.cells cells elem (0, 0)) ∧ base + es.length * size ≤ cells.size ∧ (∀ (j : Nat) (e : List Tree), es[j]? = some e → e.length = size) ∧
      ∀ (j : Nat) (e : List Tree) (c : Nat) (x : Tree), es[j]? = some e → e[c]? = some x → TRel w (fun b => B b ∨ Ex κ h b) x (cells.getD (base + (j * size + c)) undef)
  | none, .row _ _ _ es => es = []
  | some (b, d), .loop l => ∃ (f : FuncId) (tmps : Array Value), w.heap[b]? = some (.loop { state := if l.ended then .exhausted else if l.busy then .busy else if l.pending.isSome then .done else .ready, pending := l.pending, fn := f, tmps, params := l.params.toArray, assign := l.assign, body := l.body, defers := d }) ∧
      tmps.size = l.size ∧ (∀ i, VRel B κ h w (l.env i) (tmps.getD i undef)) ∧ (∀ i, Refs l.hl (l.env i)) ∧ w.heap[d]? = some (.deferred (some [])) ∧ ¬ Ex κ h d
  | _, _ => False

structure HRel (B : Nat → Prop) (κ : KMap) (h : Heap) (w : World) : Prop where
  len : κ.length = h.length
  inj : ∀ (i j b bs bs' : Nat), κ[i]? = some (some (b, bs)) → κ[j]? = some (some (b, bs')) → i = j
  notB : ∀ (i b bs : Nat), κ[i]? = some (some (b, bs)) → ¬ B b
  lt : ∀ (i b bs : Nat), κ[i]? = some (some (b, bs)) → b < w.heap.size
  ltB : ∀ b, B b → b < w.heap.size
  obj : ∀ (i : Nat) (o : AObj) (k : Option (Nat × Nat)), h[i]? = some o → κ[i]? = some k → ORel B κ h w k o

/-- A value's meaning stays from one state to a later one. -/
theorem VRel.ext {B : Nat → Prop} {κ κ' : KMap} {h h' : Heap} {w w' : World} (x : Ext κ h w κ' h' w') {a : AV} {v : Value} (ha : VRel B κ h w a v) : VRel B κ' h' w' a v := by
  induction ha with
  | undef v => exact .undef v
  | t y v hy => exact .t y v (hy.ext x)
  | nilsl a => exact .nilsl a
  | ptr i off b base hk hb =>
    obtain ⟨cs, hcs⟩ := hb
    obtain ⟨o', ho', hl⟩ := x.obj i _ hcs
    have hkind := hl.1
    cases o' with
    | box cs' => exact .ptr i off b base ((x.kap i _ _ hcs ho' rfl).trans hk) ⟨cs', ho'⟩
    | row a b c d => simp [AObj.kind] at hkind
    | loop l => simp [AObj.kind] at hkind
  | bsl i off len size cap b hk hb hlc =>
    obtain ⟨cs, hcs, hcl⟩ := hb
    obtain ⟨o', ho', hl⟩ := x.obj i _ hcs
    have hkind := hl.1
    cases o' with
    | box cs' =>
      have hlen := hl.2.2.2.2.1 rfl
      simp only [AObj.len] at hlen
      exact .bsl i off len size cap b ((x.kap i _ _ hcs ho' rfl).trans hk) ⟨cs', ho', by omega⟩ hlc
    | row a b c d => simp [AObj.kind] at hkind
    | loop l => simp [AObj.kind] at hkind
  | rptr i ver k off v h1 hex hv =>
    obtain ⟨o, ho, hver⟩ := hex
    obtain ⟨o', ho', hl⟩ := x.obj i o ho
    refine .rptr i ver k off v h1 ⟨o', ho', Nat.le_trans hver hl.2.1⟩ fun o2 ho2 he => ?_
    obtain rfl : o' = o2 := by rw [ho'] at ho2; exact Option.some.inj ho2
    have h1 := hl.2.1
    have hvv : o.ver = o'.ver := by omega
    obtain ⟨b, base, e0, e1, e2, e3⟩ := hv o ho (by omega)
    obtain ⟨s1, s2⟩ := hl.2.2.1 hvv
    exact ⟨b, base, (x.kap i o o' ho ho' hvv).trans e0, by rw [e1, s1], hl.1 ▸ e2, by omega⟩
  | eptr size cells off b base u hsz hb hn hc ht =>
    refine .eptr size cells off b base u hsz (Nat.lt_of_lt_of_le hb x.size) (fun hh => ?_) (fun c y hy => ?_) fun c y hy => (ht c y hy).ext x
    · rcases hh with hh | hh
      · exact hn (.inl hh)
      · rcases x.ex b hh with hh | hh
        · exact hn (.inr hh)
        · omega
    · rw [cell_keep x hb fun he => hn (.inr he)]; exact hc c y hy
  | sref i ver off len v h1 hex hv =>
    obtain ⟨o, ho, hver⟩ := hex
    obtain ⟨o', ho', hl⟩ := x.obj i o ho
    refine .sref i ver off len v h1 ⟨o', ho', Nat.le_trans hver hl.2.1⟩ fun k o2 hb ho2 he => ?_
    obtain rfl : o' = o2 := by rw [ho'] at ho2; exact Option.some.inj ho2
    have h1 := hl.2.1
    have hvv : o.ver = o'.ver := by omega
    have hk := (x.kap i o o' ho ho' hvv).symm.trans hb
    obtain ⟨e2, e4, e1⟩ := hv k o hk ho (by omega)
    obtain ⟨s1, s2⟩ := hl.2.2.1 hvv
    refine ⟨hl.1 ▸ e2, by omega, ?_⟩
    cases k with
    | none => exact e1
    | some p =>
      obtain ⟨b, base⟩ := p
      obtain ⟨cap, e1, e5, e6⟩ := e1
      refine ⟨cap, by rw [e1, s1], by omega, fun cells elem fr hc => ?_⟩
      obtain ⟨c0, hc0, hs⟩ := x.cells i o o' ho ho' hvv b base hk cells elem fr hc
      rw [← hs, ← s1]
      exact e6 c0 elem fr hc0
  | yld i b base hk hb =>
    obtain ⟨l, hl⟩ := hb
    obtain ⟨o', ho', hle⟩ := x.obj i _ hl
    have hkind := hle.1
    cases o' with
    | loop l' => exact .yld i b base ((x.kap i _ _ hl ho' rfl).trans hk) ⟨l', ho'⟩
    | row a b c d => simp [AObj.kind] at hkind
    | box l => simp [AObj.kind] at hkind
  | func fn first captured fs cs h1 h2 _ _ i1 i2 => exact .func fn first captured fs cs h1 h2 i1 i2
  | agg xs vs h1 _ ih => exact .agg xs vs h1 ih
  | tuple xs vs h1 _ ih => exact .tuple xs vs h1 ih

theorem ORel.ext {B : Nat → Prop} {κ κ' : KMap} {h h' : Heap} {w w' : World} (x : Ext κ h w κ' h' w') {k : Option (Nat × Nat)} {o : AObj} (hk : ∀ b base, k = some (b, base) → w'.heap[b]? = w.heap[b]?)
    (ho : ORel B κ h w k o) : ORel B κ' h' w' k o := by
  cases k with
  | none =>
    cases o with
    | row f v s es => exact ho
    | box cs => exact ho.elim
    | loop l => exact ho.elim
  | some p =>
    obtain ⟨b, base⟩ := p
    have hb := hk b base rfl
    cases o with
    | box cs =>
      obtain ⟨h0, cells, elem, hc, hs, hv⟩ := ho
      exact ⟨h0, cells, elem, hb.trans hc, hs, fun j y hy => (hv j y hy).ext x⟩
    | row f v s es =>
      obtain ⟨hz, cells, elem, hc, hs, hl, hv⟩ := ho
      exact ⟨hz, cells, elem, hb.trans hc, hs, hl, fun j e c y he hy => (hv j e c y he hy).ext x⟩
    | loop l =>
      obtain ⟨f, tmps, hc, hs, hv, hrf, hd, hn⟩ := ho
      have hdlt : base < w.heap.size := by
        rcases Nat.lt_or_ge base w.heap.size with y | y
        · exact y
        · rw [Array.getElem?_eq_none y] at hd; cases hd
      refine ⟨f, tmps, hb.trans hc, hs, fun i => (hv i).ext x, hrf, (x.keep base hdlt hn).trans hd, fun he => ?_⟩
      rcases x.ex base he with y | y
      · exact hn y
      · omega

theorem lt_of_get {α : Type} {l : List α} {i : Nat} {x : α} (h : l[i]? = some x) : i < l.length := (List.getElem?_eq_some_iff.1 h).1

theorem VRel.refs {B : Nat → Prop} {κ : KMap} {h : Heap} {w : World} {x : AV} {v : Value} (hv : VRel B κ h w x v) : Refs h.length x := by
  induction hv with
  | undef v => exact .undef
  | t y v _ => exact .t y
  | nilsl a => exact .nilsl
  | ptr i off b base hk hb => obtain ⟨cs, hcs⟩ := hb; exact .ptr _ _ (lt_of_get hcs)
  | rptr i ver k off v _ hex _ => obtain ⟨o, ho, _⟩ := hex; exact .rptr _ _ _ _ (lt_of_get ho)
  | eptr size cells off b base u _ _ _ _ _ => exact .eptr _ _ _
  | sref i ver off len v _ hex _ => obtain ⟨o, ho, _⟩ := hex; exact .sref _ _ _ _ (lt_of_get ho)
  | bsl i off len size cap b _ hb _ => obtain ⟨cs, hcs, _⟩ := hb; exact .bsl _ _ _ _ (lt_of_get hcs)
  | yld i b base _ hb => obtain ⟨l, hl⟩ := hb; exact .yld _ (lt_of_get hl)
  | func fn first captured fs cs _ _ _ _ i1 i2 => exact .func _ _ _ i1 i2
  | agg xs vs _ _ ih => exact .agg _ ih
  | tuple xs vs _ _ ih => exact .tuple _ ih

end Ab
