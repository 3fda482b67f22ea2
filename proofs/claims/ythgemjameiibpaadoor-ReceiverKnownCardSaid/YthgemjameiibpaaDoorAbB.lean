/- The abstract evaluator: operations, regions, code, functions. -/
import Derived.Test.YthgemjameiibpaaDoorAbA
namespace Ab
open Go

variable {R : Type}

/-- A test: stands as it is while it is open. -/
def cnd (c : Prop) [Decidable c] (a b : Option R) : Option R :=
  match decide c with
  | true => a
  | false => b
theorem cnd_eq (c : Prop) [Decidable c] (a b : Option R) : cnd c a b = if c then a else b := by
  unfold cnd
  by_cases h : c <;> simp [h]

/-- Both ways lead to the same answer. -/
noncomputable def both (a b : Option R) : Option R := @ite (Option R) (a = b) (Classical.propDecidable _) a none
theorem both_some {a b : Option R} {r : R} (h : both a b = some r) : a = some r ∧ b = some r := by
  unfold both at h
  split at h
  · rename_i he; exact ⟨h, he ▸ h⟩
  · cases h
theorem both_self (a : Option R) : both a a = a := by
  unfold both
  rw [if_pos rfl]

/-! ### constants and types -/
def leafConst : Value → AV
  | .int k n => .t (.int k n)
  | .bool b => .t (.bool b)
  | .string s => .t (.str s)
  | .slice none 0 0 => .nilsl
  | .pointer none => .t (.const (.pointer none))
  | .map none => .t (.const (.map none))
  | .nilFunc => .t (.const .nilFunc)
  | .nilIface => .t (.const .nilIface)
  | .func (.func f) ⟨[]⟩ ⟨[]⟩ => .func (.func f) [] []
  | _ => .undef

def ofConst : Value → AV
  | .agg ⟨cs⟩ => .agg (cs.map leafConst)
  | v => leafConst v

def ev (env : Env) : Operand → AV
  | .tmp t => env t
  | .const v => ofConst v
  | .global _ => .undef
  | .func f => .func (.func f) [] []

def szOf (P : Program) (t : TypeId) : Option Nat := (P.info? t).map (·.size)
def isAggT (P : Program) (t : TypeId) : Option Bool :=
  match P.underlying t with
  | some (.struct _) | some (.array _ _) => some true
  | some _ => some false
  | none => none
def elemSz (P : Program) (t : TypeId) : Option Nat :=
  match P.underlying t with
  | some (.slice e) => szOf P e
  | _ => none
def fieldOff (P : Program) (t : TypeId) (f : Nat) : Option Nat :=
  match P.underlying t with
  | some (.struct fs) => match fs[f]? with
    | some fd => match szOf P fd.type with
      | some (_ + 1) => some fd.offset
      | _ => none
    | none => none
  | _ => none
/-- The types of the cells of a type. -/
def leafTys (P : Program) : Nat → TypeId → List TypeId
  | 0, t => [t]
  | d + 1, t =>
    match P.underlying t with
    | some (.struct fs) => (fs.toList.map fun f => leafTys P d f.type).flatten
    | some (.array n e) => (List.replicate n (leafTys P d e)).flatten
    | _ => [t]

/-! ### reading values -/
def asIntK (k : IntKind) : AV → Option Int
  | .t (.int k' n) => if k' = k then some n else none
  | _ => none
def asInt : AV → Option Int
  | .t (.int _ n) => some n
  | _ => none
def asBool : AV → Option Bool
  | .t (.bool b) => some b
  | _ => none
def asStr : AV → Option ByteArray
  | .t (.str s) => some s
  | _ => none
def AV.leaf : AV → Bool
  | .undef | .agg _ | .tuple _ => false
  | _ => true
def AV.cells : AV → Option (List AV)
  | .agg cs => some cs
  | .undef | .tuple _ => none
  | x => some [x]

def pickCells (get : Nat → AV) (off n : Nat) : List AV := (List.range n).map fun c => get (off + c)
def rd (P : Program) (t : TypeId) (total : Nat) (get : Nat → AV) (off : Nat) (K : AV → Option R) : Option R :=
  match isAggT P t, szOf P t with
  | some true, some n => cnd (off + n ≤ total) (K (.agg (pickCells get off n))) none
  | some false, _ => cnd (off < total) (K (get off)) none
  | _, _ => none

def aload (P : Program) (t : TypeId) (h : Heap) (a : AV) (K : AV → Option R) : Option R :=
  match a with
  | .ptr i off =>
    match h[i]? with
    | some (.box cs) => rd P t cs.length (fun c => cs.getD c .undef) off K
    | _ => none
  | .rptr i ver k off =>
    match h[i]? with
    | some (.row _ ver' size es) => cnd (ver' = ver) ((es[k]?).bind fun e => rd P t size (fun c => .t (e.getD c default)) off K) none
    | _ => none
  | .eptr size cells off => rd P t size (fun c => .t (cells.getD c default)) off K
  | _ => none

/-! ### trees of a known type -/
def isIntT (k : IntKind) : Tree → Bool
  | .int k' _ => decide (k' = k)
  | _ => false
def intOf : Tree → Int
  | .int _ n => n
  | _ => 0
def isBoolT : Tree → Bool
  | .bool _ => true
  | _ => false
def boolOf : Tree → Bool
  | .bool b => b
  | _ => false
def isStrT : Tree → Bool
  | .str _ => true
  | _ => false
def strOf : Tree → ByteArray
  | .str s => s
  | _ => default
def isSlT (s : Nat) : Tree → Bool
  | .sl s' _ => decide (s' = s)
  | _ => false
def slOf : Tree → List (List Tree)
  | .sl _ es => es
  | _ => []
/-- A tree of a type, with its head shown. -/
def retT (P : Program) (t : TypeId) (x : Tree) (K : Tree → Option R) : Option R :=
  match P.underlying t with
  | some (.int k) => cnd (isIntT k x = true) (K (.int k (intOf x))) none
  | some .bool => cnd (isBoolT x = true) (K (.bool (boolOf x))) none
  | some .string => cnd (isStrT x = true) (K (.str (strOf x))) none
  | some (.slice e) => match szOf P e with
    | some s => cnd (isSlT s x = true) (K (.sl s (slOf x))) none
    | none => none
  | _ => K x
def retCells (P : Program) : List TypeId → List AV → (List AV → Option R) → Option R
  | [], cs, K => K cs
  | _ :: _, [], K => K []
  | t :: ts, c :: cs, K => match c with
    | .t x => retT P t x fun y => retCells P ts cs fun r => K (.t y :: r)
    | c => retCells P ts cs fun r => K (c :: r)
def retV (P : Program) (t : TypeId) (v : AV) (K : AV → Option R) : Option R :=
  match v with
  | .t x => retT P t x fun y => K (.t y)
  | .agg cs => retCells P (leafTys P 16 t) cs fun r => K (.agg r)
  | v => K v
def retN (P : Program) (f : Nat → Tree) : List TypeId → Nat → (List Tree → Option R) → Option R
  | [], _, K => K []
  | t :: ts, i, K => retT P t (f i) fun y => retN P f ts (i + 1) fun r => K (y :: r)
def retYs (P : Program) (ts : List TypeId) (ys : List Tree) (K : List Tree → Option R) : Option R :=
  cnd (ys.length = ts.length) (retN P (fun i => ys.getD i default) ts 0 K) none

theorem isIntT_ok {k : IntKind} {x : Tree} (h : isIntT k x = true) : x = .int k (intOf x) := by
  cases x <;> simp_all [isIntT, intOf]
theorem isBoolT_ok {x : Tree} (h : isBoolT x = true) : x = .bool (boolOf x) := by
  cases x <;> simp_all [isBoolT, boolOf]
theorem isStrT_ok {x : Tree} (h : isStrT x = true) : x = .str (strOf x) := by
  cases x <;> simp_all [isStrT, strOf]
theorem isSlT_ok {s : Nat} {x : Tree} (h : isSlT s x = true) : x = .sl s (slOf x) := by
  cases x <;> simp_all [isSlT, slOf]

theorem retT_cases (P : Program) (t : TypeId) (x : Tree) : (∀ (R : Type) (K : Tree → Option R), retT P t x K = K x) ∨ ∀ (R : Type) (K : Tree → Option R), retT P t x K = none := by
  unfold retT
  try simp only [cnd_eq]
  cases P.underlying t with
  | none => exact .inl fun _ _ => rfl
  | some u =>
    cases u with
    | int k =>
      by_cases h : isIntT k x = true
      · exact .inl fun R K => by dsimp only; rw [if_pos h, ← isIntT_ok h]
      · exact .inr fun R K => by dsimp only; rw [if_neg h]
    | bool =>
      by_cases h : isBoolT x = true
      · exact .inl fun R K => by dsimp only; rw [if_pos h, ← isBoolT_ok h]
      · exact .inr fun R K => by dsimp only; rw [if_neg h]
    | string =>
      by_cases h : isStrT x = true
      · exact .inl fun R K => by dsimp only; rw [if_pos h, ← isStrT_ok h]
      · exact .inr fun R K => by dsimp only; rw [if_neg h]
    | slice e =>
      dsimp only
      cases szOf P e with
      | none => exact .inr fun _ _ => rfl
      | some s =>
        by_cases h : isSlT s x = true
        · exact .inl fun R K => by dsimp only; rw [if_pos h, ← isSlT_ok h]
        · exact .inr fun R K => by dsimp only; rw [if_neg h]
    | _ => exact .inl fun _ _ => rfl
theorem retCells_cases (P : Program) : ∀ (ts : List TypeId) (cs : List AV), (∀ (R : Type) (K : List AV → Option R), retCells P ts cs K = K cs) ∨ ∀ (R : Type) (K : List AV → Option R), retCells P ts cs K = none
  | [], cs => .inl fun _ _ => rfl
  | _ :: _, [] => .inl fun _ _ => rfl
  | t :: ts, c :: cs => by
    rcases retCells_cases P ts cs with h | h
    · cases c with
      | t x =>
        simp only [retCells]
        rcases retT_cases P t x with h1 | h1
        · exact .inl fun R K => by rw [h1, h]
        · exact .inr fun R K => by rw [h1]
      | _ => exact .inl fun R K => by simp only [retCells]; rw [h]
    · cases c with
      | t x =>
        simp only [retCells]
        rcases retT_cases P t x with h1 | h1
        · exact .inr fun R K => by rw [h1, h]
        · exact .inr fun R K => by rw [h1]
      | _ => exact .inr fun R K => by simp only [retCells]; rw [h]
theorem retV_cases (P : Program) (t : TypeId) (v : AV) : (∀ (R : Type) (K : AV → Option R), retV P t v K = K v) ∨ ∀ (R : Type) (K : AV → Option R), retV P t v K = none := by
  cases v with
  | t x =>
    rcases retT_cases P t x with h | h
    · exact .inl fun R K => by simp only [retV]; rw [h]
    · exact .inr fun R K => by simp only [retV]; rw [h]
  | agg cs =>
    rcases retCells_cases P (leafTys P 16 t) cs with h | h
    · exact .inl fun R K => by simp only [retV]; rw [h]
    · exact .inr fun R K => by simp only [retV]; rw [h]
  | _ => exact .inl fun _ _ => rfl
theorem retN_cases (P : Program) (f : Nat → Tree) : ∀ (ts : List TypeId) (i : Nat), (∀ (R : Type) (K : List Tree → Option R), retN P f ts i K = K ((List.range' i ts.length).map f)) ∨ ∀ (R : Type) (K : List Tree → Option R), retN P f ts i K = none
  | [], i => .inl fun _ _ => rfl
  | t :: ts, i => by
    rcases retT_cases P t (f i) with h | h
    · rcases retN_cases P f ts (i + 1) with h1 | h1
      · exact .inl fun R K => by simp only [retN]; rw [h, h1]; rfl
      · exact .inr fun R K => by simp only [retN]; rw [h, h1]
    · exact .inr fun R K => by simp only [retN]; rw [h]
theorem retYs_cases (P : Program) (ts : List TypeId) (ys : List Tree) : (∀ (R : Type) (K : List Tree → Option R), retYs P ts ys K = K ys) ∨ ∀ (R : Type) (K : List Tree → Option R), retYs P ts ys K = none := by
  unfold retYs
  try simp only [cnd_eq]
  by_cases hl : ys.length = ts.length
  · simp only [if_pos hl]
    rcases retN_cases P (fun i => ys.getD i default) ts 0 with h | h
    · refine .inl fun R K => ?_
      rw [h]
      congr 1
      apply List.ext_getElem?
      intro i
      rcases Nat.lt_or_ge i ys.length with hi | hi
      · simp [← hl, hi]
      · simp [← hl, Nat.not_lt.2 hi]
    · exact .inr h
  · exact .inr fun _ _ => if_neg hl
theorem retV_ok {P : Program} {t : TypeId} {v : AV} {K : AV → Option R} {r : R} (h : retV P t v K = some r) : K v = some r := by
  rcases retV_cases P t v with h1 | h1
  · rw [h1] at h; exact h
  · rw [h1] at h; cases h
theorem retYs_ok {P : Program} {ts : List TypeId} {ys : List Tree} {K : List Tree → Option R} {r : R} (h : retYs P ts ys K = some r) : K ys = some r := by
  rcases retYs_cases P ts ys with h1 | h1
  · rw [h1] at h; exact h
  · rw [h1] at h; cases h

/-- The type-directed reading of a value as a tree. 'fz': rows must be frozen. -/
def conv (P : Program) (fz : Bool) (h : Heap) (ty : TypeId) (v : AV) (K : Tree → Option R) : Option R :=
  match v with
  | .t x => K x
  | .nilsl => (elemSz P ty).bind fun s => K (.sl s [])
  | .sref i ver off len =>
    match h[i]? with
    | some (.row f ver' size es) => (elemSz P ty).bind fun s => cnd ((f = true ∨ fz = false) ∧ ver' = ver ∧ (size = s ∨ size = 0)) (K (.sl s ((es.drop off).take len))) none
    | _ => none
  | .func fn [] [] => K (.const (.func fn #[] #[]))
  | _ => none
def convs (P : Program) (fz : Bool) (h : Heap) : List TypeId → List AV → (List Tree → Option R) → Option R
  | [], [], K => K []
  | t :: ts, v :: vs, K => conv P fz h t v fun x => convs P fz h ts vs fun xs => K (x :: xs)
  | _, _, _ => none

def setAt (cs : List AV) (off : Nat) (vs : List AV) : List AV := cs.take off ++ (vs ++ cs.drop (off + vs.length))

/-- A nil slice that is put into memory becomes a row without memory. -/
def rowify (P : Program) : List TypeId → List AV → Heap → (List AV → Heap → Option R) → Option R
  | _, [], h, K => K [] h
  | ts, .nilsl :: vs, h, K => rowify P ts.tail vs (h ++ [.row false 0 ((elemSz P (ts.headD 0)).getD 0) []]) fun vs' h' => K (.sref h.length 0 0 0 :: vs') h'
  | ts, v :: vs, h, K => rowify P ts.tail vs h fun vs' h' => K (v :: vs') h'

/-- A nil slice that is put into memory as data. -/
def nilTs (P : Program) (tf : TypeId → Bool) : List TypeId → List AV → List AV
  | _, [] => []
  | ts, v :: vs => (match v with
    | .nilsl => if tf (ts.headD 0) then .t (.sl ((elemSz P (ts.headD 0)).getD 0) []) else .nilsl
    | v => v) :: nilTs P tf ts.tail vs
def nilV (P : Program) (tf : TypeId → Bool) (t : TypeId) (v : AV) : AV :=
  match v with
  | .agg cs => .agg (nilTs P tf (leafTys P 16 t) cs)
  | .nilsl => if tf t then .t (.sl ((elemSz P t).getD 0) []) else .nilsl
  | v => v

def allocBox (P : Program) (t : TypeId) (cs : List AV) (h : Heap) (K : AV → Heap → Option R) : Option R :=
  rowify P (leafTys P 16 t) cs h fun cs' h' => K (.ptr h'.length 0) (h' ++ [.box cs'])

def astore (P : Program) (t : TypeId) (h : Heap) (a v : AV) (K : Heap → Option R) : Option R :=
  match v.cells, szOf P t with
  | some vs, some n =>
    cnd (vs.length = n ∧ vs.all AV.leaf = true) (match a with
      | .ptr i off =>
        match h[i]? with
        | some (.box cs) => cnd (off + n ≤ cs.length) (rowify P (leafTys P 16 t) vs h fun vs' h' => K (h'.set i (.box (setAt cs off vs')))) none
        | _ => none
      | .rptr i ver k off =>
        match h[i]? with
        | some (.row false ver' size es) =>
          cnd (ver' = ver ∧ off + n ≤ size) ((es[k]?).bind fun e => convs P true h (leafTys P 16 t) vs fun xs => K (h.set i (.row false ver size (es.set k (e.take off ++ (xs ++ e.drop (off + n))))))) none
        | _ => none
      | _ => none) none
  | _, _ => none

/-! ### arithmetic -/
def andK (k : IntKind) (a b : Int) : Int := k.wrap (BitVec.ofInt k.bits a &&& BitVec.ofInt k.bits b).toNat
def orK (k : IntKind) (a b : Int) : Int := k.wrap (BitVec.ofInt k.bits a ||| BitVec.ofInt k.bits b).toNat
def xorK (k : IntKind) (a b : Int) : Int := k.wrap (BitVec.ofInt k.bits a ^^^ BitVec.ofInt k.bits b).toNat
def shlK (k : IntKind) (a b : Int) : Int := k.wrap (a * 2 ^ min b.toNat k.bits)
def shrK (k : IntKind) (a b : Int) : Int := a.fdiv (2 ^ min b.toNat k.bits)
def aarith (op : BinOp) (k : IntKind) (a b : Int) (K : AV → Option R) : Option R :=
  match op with
  | .add => K (.t (.int k (k.wrap (a + b))))
  | .sub => K (.t (.int k (k.wrap (a - b))))
  | .mul => K (.t (.int k (k.wrap (a * b))))
  | .quo => cnd (b = 0) none (K (.t (.int k (k.wrap (a.tdiv b)))))
  | .rem => cnd (b = 0) none (K (.t (.int k (a.tmod b))))
  | .eql => K (.t (.bool (a == b)))
  | .neq => K (.t (.bool (a != b)))
  | .lss => K (.t (.bool (decide (a < b))))
  | .leq => K (.t (.bool (decide (a ≤ b))))
  | .gtr => K (.t (.bool (decide (a > b))))
  | .geq => K (.t (.bool (decide (a ≥ b))))
  | .and => K (.t (.int k (andK k a b)))
  | .or => K (.t (.int k (orK k a b)))
  | .xor => K (.t (.int k (xorK k a b)))
  | _ => none
def ashift (op : BinOp) (k : IntKind) (a b : Int) (K : AV → Option R) : Option R :=
  match op with
  | .shl => cnd (b < 0) none (K (.t (.int k (shlK k a b))))
  | .shr => cnd (b < 0) none (K (.t (.int k (shrK k a b))))
  | _ => none
def isShift : BinOp → Bool
  | .shl | .shr => true
  | _ => false

/-- Equality of two values of one type: integers, bools, strings, structs of these. -/
def eqAt (P : Program) : Nat → TypeId → (Nat → AV) → (Nat → AV) → Nat → (Bool → Option R) → Option R
  | 0, _, _, _, _, _ => none
  | d + 1, t, gx, gy, off, K =>
    match P.underlying t with
    | some (.int k) => (asIntK k (gx off)).bind fun a => (asIntK k (gy off)).bind fun b => K (a == b)
    | some .bool => (asBool (gx off)).bind fun a => (asBool (gy off)).bind fun b => K (a == b)
    | some .string => (asStr (gx off)).bind fun a => (asStr (gy off)).bind fun b => K (a == b)
    | some (.struct fs) =>
      match szOf P t with
      | some n => cnd (P.stoodInHeld t = false) (fs.toList.foldr (fun f (K' : Bool → Option R) (acc : Bool) =>
          match szOf P f.type with
          | some m => cnd (f.name ≠ "_" ∧ f.offset + m ≤ n ∧ (isAggT P f.type = some true ∨ isAggT P f.type = some false ∧ m = 1)) (eqAt P d f.type gx gy (off + f.offset) fun b => K' (acc && b)) none
          | none => none) K true) none
      | none => none
    | _ => none

def abin (P : Program) (op : BinOp) (t : TypeId) (x y : AV) (K : AV → Option R) : Option R :=
  match P.underlying t with
  | some (.int k) => if isShift op then (asIntK k x).bind fun a => (asInt y).bind fun b => ashift op k a b K
    else (asIntK k x).bind fun a => (asIntK k y).bind fun b => aarith op k a b K
  | some .bool => (asBool x).bind fun a => (asBool y).bind fun b => match op with
    | .eql => K (.t (.bool (a == b)))
    | .neq => K (.t (.bool (!(a == b))))
    | _ => none
  | some .string => (asStr x).bind fun a => (asStr y).bind fun b => match op with
    | .eql => K (.t (.bool (a == b)))
    | .neq => K (.t (.bool (a != b)))
    | .add => cnd (a.size + b.size ≤ 9223372036854775807) (K (.t (.str (a ++ b)))) none
    | _ => none
  | some (.struct _) =>
    match x, y, szOf P t with
    | .agg xs, .agg ys, some n =>
      cnd (P.eqGuardType P.depth t = false ∧ xs.length = n ∧ ys.length = n) (match op with
        | .eql => eqAt P 16 t (fun i => xs.getD i .undef) (fun i => ys.getD i .undef) 0 fun b => K (.t (.bool b))
        | .neq => eqAt P 16 t (fun i => xs.getD i .undef) (fun i => ys.getD i .undef) 0 fun b => K (.t (.bool (!b)))
        | _ => none) none
    | _, _, _ => none
  | _ => none

def aun (op : UnOp) (x : AV) (K : AV → Option R) : Option R :=
  match op with
  | .not => (asBool x).bind fun b => K (.t (.bool (!b)))
  | .neg => match x with
    | .t (.int k n) => K (.t (.int k (k.wrap (0 - n))))
    | _ => none
  | _ => none

/-- Conversions between kinds of integers. -/
def aconvert (P : Program) (src dst : TypeId) (x : AV) (K : AV → Option R) : Option R :=
  match P.underlying src, P.underlying dst with
  | some (.int k0), some (.int k) => (asIntK k0 x).bind fun n => K (.t (.int k (k.wrap n)))
  | some .string, some .string => (asStr x).bind fun s => K (.t (.str s))
  | _, _ => none

def amaxL (mx : Bool) : List AV → (AV → Option R) → Option R
  | [], _ => none
  | x :: rest, K => (asIntK .i64 x).bind fun a => go a rest K
where
  go : Int → List AV → (AV → Option R) → Option R
  | a, [], K => K (.t (.int .i64 a))
  | a, y :: rest, K => (asIntK .i64 y).bind fun b => go (if mx then (if b > a then b else a) else (if b < a then b else a)) rest K

/-! ### addresses and slices -/
def afield (P : Program) (t : TypeId) (h : Heap) (a : AV) (f : Nat) (K : AV → Option R) : Option R :=
  (fieldOff P t f).bind fun o => match a with
    | .ptr i off => K (.ptr i (off + o))
    | .eptr size cells off => K (.eptr size cells (off + o))
    | .rptr i ver k off => (h[i]?).bind fun ob => cnd (ob.ver = ver) (K (.rptr i ver k (off + o))) none
    | _ => none

/-- An index that is one of the first ones. -/
def pickI (i : Int) : Nat → (Nat → Option R) → Option R
  | 0, _ => none
  | n + 1, K => cnd (i = n) (K n) (pickI i n K)

def aindex (P : Program) (t : TypeId) (h : Heap) (x ix : AV) (K : AV → Option R) : Option R :=
  (asInt ix).bind fun i => match P.underlying t with
    | some (.slice e) => (szOf P e).bind fun s => match x with
      | .t (.sl size es) => cnd (size = s ∧ 0 ≤ i) ((es[i.toNat]?).bind fun c => K (.eptr size c 0)) none
      | .sref r ver off len => match h[r]? with
        | some (.row _ ver' size _) => cnd (ver' = ver ∧ size = s ∧ 0 ≤ i ∧ i < len) (K (.rptr r ver (off + i.toNat) 0)) none
        | _ => none
      | .bsl r off len size => cnd (size = s ∧ 0 ≤ i ∧ i < len) (if len ≤ 16 then pickI i len fun j => K (.ptr r (off + j * size)) else K (.ptr r (off + i.toNat * size))) none
      | _ => none
    | some (.array n e) => (szOf P e).bind fun s => match x with
      | .ptr r off => cnd (0 ≤ i ∧ i < n) (if n ≤ 16 then pickI i n fun j => K (.ptr r (off + j * s)) else K (.ptr r (off + i.toNat * s))) none
      | _ => none
    | _ => none

def alen (P : Program) (t : TypeId) (h : Heap) (x : AV) (K : AV → Option R) : Option R :=
  match P.underlying t with
  | some (.slice _) => match x with
    | .t (.sl _ es) => K (.t (.int .i64 es.length))
    | .nilsl => K (.t (.int .i64 0))
    | .sref i ver _ len => match h[i]? with
      | some (.row _ ver' _ _) => cnd (ver' = ver) (K (.t (.int .i64 len))) none
      | _ => none
    | .bsl _ _ len _ => K (.t (.int .i64 len))
    | _ => none
  | some .string => (asStr x).bind fun s => K (.t (.int .i64 s.size))
  | some (.array n _) => K (.t (.int .i64 n))
  | _ => none

def abound (x : Option AV) (d : Nat) (hi : Nat) (K : Nat → Option R) : Option R :=
  match x with
  | none => K d
  | some v => (asInt v).bind fun i => cnd (0 ≤ i ∧ i ≤ hi) (K i.toNat) none

def aslice (P : Program) (t : TypeId) (h : Heap) (x : AV) (lo hi mx : Option AV) (K : AV → Option R) : Option R :=
  match mx, P.underlying t with
  | none, some .string => (asStr x).bind fun s => abound hi s.size s.size fun b => abound lo 0 b fun a => K (.t (.str (s.extract a b)))
  | none, some (.slice e) => (szOf P e).bind fun z => match x with
    | .t (.sl size es) => cnd (size = z) (abound hi es.length es.length fun b => abound lo 0 b fun a => K (.t (.sl size ((es.take b).drop a)))) none
    | .nilsl => abound hi 0 0 fun b => abound lo 0 b fun _ => K .nilsl
    | .sref i ver off len => match h[i]? with
      | some (.row _ ver' size es) => cnd (ver' = ver ∧ (size = z ∨ size = 0)) (abound hi len (es.length - off) fun b => abound lo 0 b fun a => cnd (a < es.length - off ∨ a = 0) (K (.sref i ver (off + a) (b - a))) (K (.t (.sl z [])))) none
      | _ => none
    | _ => none
  | some m, some (.slice e) => (szOf P e).bind fun z => match x, hi with
    | .t (.sl size es), some b => cnd (size = z) (abound (some m) 0 es.length fun m => abound (some b) 0 m fun b => abound lo 0 b fun _ => K .undef) none
    | .nilsl, some b => abound (some m) 0 0 fun m => abound (some b) 0 m fun b => abound lo 0 b fun _ => K .undef
    | .sref i ver off _, some b => match h[i]? with
      | some (.row _ ver' _ es) => cnd (ver' = ver) (abound (some m) 0 (es.length - off) fun m => abound (some b) 0 m fun b => abound lo 0 b fun _ => K .undef) none
      | _ => none
    | _, _ => none
  | _, _ => none

/-! ### building -/
def zeroCells? (P : Program) (t : TypeId) : Option (List AV) :=
  match (P.info? t).bind (·.zero) with
  | some v => (ofConst v).cells
  | none => none

def fillCells (place : Nat → Option (Nat × Nat)) (cs : List AV) : List (Nat × AV) → Option (List AV)
  | [] => some cs
  | (i, v) :: rest =>
    match place i, v.cells with
    | some (off, size), some vs => if vs.length = size ∧ off + size ≤ cs.length then fillCells place (setAt cs off vs) rest else none
    | _, _ => none

def abuild (P : Program) (t : TypeId) (parts : List (Nat × AV)) (K : AV → Option R) : Option R :=
  match P.underlying t with
  | some (.struct fs) =>
    match fs.toList.mapM (fun f => (P.info? f.type).map fun i => (f.offset, i.size)) with
    | some places => (zeroCells? P t).bind fun z => (fillCells (fun i => places[i]?) z parts).bind fun cs => K (.agg cs)
    | none => none
  | some (.array _ e) => (szOf P e).bind fun s => (zeroCells? P t).bind fun z => (fillCells (fun i => some (i * s, s)) z parts).bind fun cs => K (.agg cs)
  | _ => none

/-- The cells of a slice literal, element by element, as trees. -/
def chunk (s : Nat) : Nat → List Tree → List (List Tree)
  | 0, _ => []
  | n + 1, xs => xs.take s :: chunk s n (xs.drop s)

/-- A slice literal: an empty one has no room. -/
def bslV (s len : Nat) (xs : List Tree) : AV := if len = 0 then .nilsl else .t (.sl s (chunk s len xs))

def abuildSlice (P : Program) (t : TypeId) (h : Heap) (len : Nat) (parts : List (Nat × AV)) (K : AV → Option R) : Option R :=
  match P.underlying t with
  | some (.slice e) => (szOf P e).bind fun s => (zeroCells? P e).bind fun z =>
    cnd (z.length = s ∧ s ≠ 0 ∧ len * s ≤ 16777216) ((fillCells (fun i => some (i * s, s)) (List.replicate len z).flatten parts).bind fun cs =>
        convs P true h (List.replicate len (leafTys P 16 e)).flatten cs fun xs => K (bslV s len xs)) none
  | _ => none

/-- A slice literal of closures: a box of them. -/
def abuildBsl (P : Program) (t : TypeId) (h : Heap) (len : Nat) (parts : List (Nat × AV)) (K : AV → Heap → Option R) : Option R :=
  match P.underlying t with
  | some (.slice e) => (szOf P e).bind fun s => (zeroCells? P e).bind fun z =>
    cnd (z.length = s ∧ s ≠ 0 ∧ len ≠ 0 ∧ len * s ≤ 16777216) ((fillCells (fun i => some (i * s, s)) (List.replicate len z).flatten parts).bind fun cs =>
        K (.bsl h.length 0 len s) (h ++ [.box cs])) none
  | _ => none

/-- What a source of an append holds. -/
def elems (h : Heap) (z : Nat) (x : AV) (K : List (List Tree) → Option R) : Option R :=
  match x with
  | .t (.sl size es) => cnd (size = z) (K es) none
  | .nilsl => K []
  | .sref i ver off len =>
    match h[i]? with
    | some (.row _ ver' size es) => cnd (ver' = ver ∧ (size = z ∨ size = 0)) (K ((es.drop off).take len)) none
    | _ => none
  | _ => none

/-- The element size of a slice type that can be appended to. -/
def appSz (P : Program) (t : TypeId) : Option Nat :=
  match P.underlying t with
  | some (.slice e) => match P.info? e with
    | some i => match i.zero with
      | some z => if i.size ≠ 0 ∧ z.cells.size = i.size ∧ i.bytes ≤ 65536 then some i.size else none
      | none => none
    | none => none
  | _ => none

def aappend (P : Program) (t : TypeId) (h : Heap) (s x : AV) (K : AV → Heap → Option R) : Option R :=
  (appSz P t).bind fun z => elems h z x fun new =>
    match s with
    | .nilsl => cnd (new.length ≤ 1073741824) (K (.sref h.length 0 0 new.length) (h ++ [.row false 0 z new])) none
    | .sref i ver off len => match h[i]? with
      | some (.row false ver' size es) =>
        cnd (new.length = 0 ∧ off + len < es.length) (cnd (ver' = ver) (K (.sref i ver off len) h) none) (cnd (ver' = ver ∧ (size = z ∨ size = 0) ∧ off + len ≤ es.length ∧ len + new.length ≤ 1073741824) (K (.sref i (ver + 1) 0 (len + new.length)) (h.set i (.row false (ver + 1) z ((es.drop off).take len ++ new)))) none)
      | _ => none
    | _ => none

/-- Two slices over one row. -/
def sameRow : AV → AV → Bool
  | .sref i _ _ _, .sref j _ _ _ => i == j
  | _, _ => false
/-- Elements of a row are overwritten. -/
def rowSet (es : List (List Tree)) (p : Nat) (new : List (List Tree)) : List (List Tree) := es.take p ++ new ++ es.drop (p + new.length)
/-- append within a row. -/
def aappendIn (P : Program) (t : TypeId) (h : Heap) (s x : AV) (K : AV → Heap → Option R) : Option R :=
  (appSz P t).bind fun z => elems h z x fun new =>
    match s with
    | .sref i ver off len => match h[i]? with
      | some (.row false ver' size es) =>
        cnd (ver' = ver ∧ size = z ∧ off + len + new.length ≤ es.length) (K (.sref i ver off (len + new.length)) (h.set i (.row false ver z (rowSet es (off + len) new)))) none
      | _ => none
    | _ => none
/-- The cells of a type's zero value, as trees. -/
def zeroT (P : Program) (h : Heap) (e : TypeId) (K : List Tree → Option R) : Option R :=
  match zeroCells? P e, szOf P e with
  | some z, some n => cnd (n ≠ 0 ∧ z.length = n) (convs P true h (leafTys P 16 e) z K) none
  | _, _ => none
def aclear (P : Program) (t : TypeId) (h : Heap) (x : AV) (K : Heap → Option R) : Option R :=
  match P.underlying t with
  | some (.slice e) => match x with
    | .t (.sl _ es) => cnd (es.length = 0) (K h) none
    | .nilsl => K h
    | .sref i ver off len => zeroT P h e fun zs => match h[i]? with
      | some (.row false ver' size es) => cnd (ver' = ver ∧ size = zs.length) (K (h.set i (.row false ver size (rowSet es off (List.replicate len zs))))) none
      | _ => none
    | _ => none
  | _ => none
/-- A string's bytes, as a row. -/
def strRow (s : ByteArray) : List (List Tree) := s.data.toList.map fun b => [.int .u8 (b.toNat : Int)]
/-- What is copied from. -/
def srcEs (h : Heap) (z : Nat) (x : AV) (K : List (List Tree) → Option R) : Option R :=
  match x with
  | .t (.str s) => cnd (z = 1) (K (strRow s)) none
  | x => elems h z x K
def acopy (P : Program) (t : TypeId) (h : Heap) (d x : AV) (K : AV → Heap → Option R) : Option R :=
  (elemSz P t).bind fun z => srcEs h z x fun new => match d with
    | .sref i ver off len => match h[i]? with
      | some (.row false ver' size es) => cnd (ver' = ver ∧ size = z) (K (.t (.int .i64 (min new.length len : Nat))) (h.set i (.row false ver z (rowSet es off (new.take len))))) none
      | _ => none
    | _ => none
def amake (P : Program) (t : TypeId) (h : Heap) (n c : AV) (K : AV → Heap → Option R) : Option R :=
  (appSz P t).bind fun z => match P.underlying t with
    | some (.slice e) => (asIntK .i64 n).bind fun a => (asIntK .i64 c).bind fun b => zeroT P h e fun zs =>
      cnd (a = b ∧ 0 ≤ a ∧ a ≤ 1073741824 ∧ zs.length = z) (K (.sref h.length 0 0 a.toNat) (h ++ [.row false 0 z (List.replicate a.toNat zs)])) none
    | _ => none

/-- slices.Grow(nil, n). -/
def agrow (z : Nat) (h : Heap) (avs : List AV) (K : AV → Heap → Option R) : Option R :=
  match avs with
  | [.nilsl, nx] => (asIntK .i64 nx).bind fun n => cnd (0 ≤ n ∧ n ≤ 1073741824) (K (.sref h.length 0 0 0) (h ++ [.row false 0 z []])) none
  | _ => none

/-- slices.Insert(s, k, new..): s is the caller's own. -/
def ains (z : Nat) (h : Heap) (avs : List AV) (K : AV → Heap → Option R) : Option R :=
  match avs with
  | [s, kx, .t (.sl z' new)] => (asIntK .i64 kx).bind fun k => cnd (z' = z ∧ new.length ≠ 0) (match s with
    | .nilsl => cnd (k = 0 ∧ new.length ≤ 1073741824) (K (.sref h.length 0 0 new.length) (h ++ [.row false 0 z new])) none
    | .sref i ver off len => match h[i]? with
      | some (.row false ver' size es) => cnd (ver' = ver ∧ size = z ∧ off + len = es.length ∧ len + new.length ≤ 1073741824 ∧ 0 ≤ k ∧ k ≤ len)
          (K (.sref i (ver + 1) 0 (len + new.length)) (h.set i (.row false (ver + 1) z ((es.drop off).take k.toNat ++ new ++ (es.drop off).drop k.toNat)))) none
      | _ => none
    | _ => none) none
  | _ => none

/-- Functions of the library that are one step. -/
inductive Prim where
  | ins (z : Nat)
  | grow (z : Nat)
def aprim (p : Prim) (h : Heap) (avs : List AV) (K : AV → Heap → Option R) : Option R :=
  match p with
  | .ins z => ains z h avs K
  | .grow z => agrow z h avs K

end Ab
