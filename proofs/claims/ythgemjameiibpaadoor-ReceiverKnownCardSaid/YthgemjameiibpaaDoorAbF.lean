/- The abstract evaluator: regions, code, functions. -/
import Derived.Test.YthgemjameiibpaaDoorAbE2
import Derived.Orders
import Derived.Test.YthgemjameiibpaaDoorAbI1
namespace Ab
open Go

variable {R : Type}

def Env.put (env : Env) (d : Option Tmp) (v : AV) : Env :=
  match d with
  | some d => fun i => if i = d then v else env i
  | none => env

/-- What the evaluator is told of each function: the slots that stay known where ways meet. -/
structure Hints where
  loop : Nat → List Tmp
  block : Nat → List Tmp
  cond : Tmp → List Tmp
  reg : Nat → List Tmp
  rowsz : Tmp → Nat
  tree : Tmp → Bool
  imm : Tmp → Bool
  immT : TypeId → Bool
  nilT : TypeId → Bool
  tm : Tmp → AV

/-- What a function that is one step asks of its program. -/
def PrimOk (P : Program) (g : FuncId) : Prim → Prop
  | .ins z => ∃ ρ : Go.Shelf.Ren, ρ.f 22 = g ∧ Go.Proofs.InsLay P ρ z
  | .grow z => ∃ ρ : Go.Shelf.Ren, ρ.f 4 = g ∧ Go.Proofs.GrowLay P ρ z

structure Cfg where
  P : Program
  heapful : FuncId → Bool
  own : FuncId → Bool
  reuse : FuncId → Bool
  joinc : FuncId → Bool
  prim : FuncId → Option Prim
  primOk : ∀ g p, prim g = some p → PrimOk P g p
  cur : Tmp → Bool
  curT : TypeId → Bool
  curN : TypeId → Bool
  depth : Nat
  hints : FuncId → Hints
  /-- functions by contracts proved elsewhere -/
  ext : FuncId → List Tree → Option (List Tree) := fun _ _ => none
  /-- slice types whose literals are boxes -/
  fnTy : TypeId → Bool := fun _ => false

/-- The configuration inside a function. -/
def Cfg.at (C : Cfg) (g : FuncId) : Cfg := { C with cur := (C.hints g).imm, curT := (C.hints g).immT, curN := (C.hints g).nilT }

/-- What is asked of the evaluator one level down: a function, or a round of a range over a function. -/
inductive Req where
  | fn (g : FuncId) (args : List AV)
  | yield (i : Nat) (args : List AV)
abbrev Rec := ∀ R : Type, Req → Heap → (List AV → Heap → Option R) → Option R
abbrev PRec := FuncId → List Tree → Option (List Tree)

/-! ### calls -/
def mkVal (P : Program) (t : TypeId) (leaf : Nat → AV) (off : Nat) : Option (AV × Nat) :=
  match isAggT P t, szOf P t with
  | some true, some n => some (.agg (pickCells leaf off n), off + n)
  | some false, _ => some (leaf off, off + 1)
  | _, _ => none
def mkVals (P : Program) (leaf : Nat → AV) : List TypeId → Nat → Option (List AV)
  | [], _ => some []
  | t :: ts, off => match mkVal P t leaf off with
    | some (v, off') => (mkVals P leaf ts off').map (v :: ·)
    | none => none
/-- The result of a call out of its cells. -/
def mkRes (P : Program) (g : FuncId) (leaf : Nat → AV) : Option AV :=
  match P.funcs[g]? with
  | some fn => match mkVals P leaf fn.resultTypes.toList 0 with
    | some [v] => some v
    | some vs => some (.tuple vs)
    | none => none
  | none => none
def mkArgs (P : Program) (g : FuncId) (leaf : Nat → AV) : Option (List AV) :=
  match P.funcs[g]? with
  | some fn => mkVals P leaf fn.params.toList 0
  | none => none
def paramTys (P : Program) (g : FuncId) : List TypeId :=
  match P.funcs[g]? with
  | some fn => (fn.params.toList.map (leafTys P 16)).flatten
  | none => []
def resTys (P : Program) (g : FuncId) : List TypeId :=
  match P.funcs[g]? with
  | some fn => (fn.resultTypes.toList.map (leafTys P 16)).flatten
  | none => []
def scalarTy (P : Program) (t : TypeId) : Bool :=
  match P.underlying t with
  | some (.int _) | some .bool | some .string => true
  | _ => false
def scalarRes (P : Program) (g : FuncId) : Bool := (resTys P g).all (scalarTy P)
def Tree.scalar : Tree → Bool
  | .int _ _ | .bool _ | .str _ => true
  | _ => false

/-- The cells of values of given types. -/
def flatK (P : Program) : List TypeId → List AV → (List AV → Option R) → Option R
  | [], [], K => K []
  | t :: ts, v :: vs, K =>
    match isAggT P t with
    | some true => match v with
      | .agg cs => cnd (szOf P t = some cs.length) (flatK P ts vs fun rs => K (cs ++ rs)) none
      | _ => none
    | some false => cnd (v.leaf = true) (flatK P ts vs fun rs => K (v :: rs)) none
    | none => none
  | _, _, _ => none

def freeze1 (h : Heap) : AV → Heap
  | .sref i _ _ _ => match h[i]? with
    | some (.row _ v s es) => h.set i (.row true v s es)
    | _ => h
  | _ => h
def freezeAll (h : Heap) (vs : List AV) : Heap := vs.foldl freeze1 h

/-- Where the references of a value lead. -/
def below : Nat → Nat → AV → Bool
  | 0, _, _ => false
  | d + 1, m, v => match v with
    | .undef | .t _ | .nilsl | .eptr _ _ _ => true
    | .ptr i _ | .rptr i _ _ _ | .sref i _ _ _ | .bsl i _ _ _ | .yld i => decide (i < m)
    | .func _ f c => f.all (below d m) && c.all (below d m)
    | .agg cs | .tuple cs => cs.all (below d m)
def obelow (m : Nat) : AObj → Bool
  | .box cs => cs.all (below 4 m)
  | .loop l => decide (l.hl ≤ m)
  | _ => true
def isT : AV → Bool
  | .t _ => true
  | _ => false
def treeOf : AV → Tree
  | .t x => x
  | _ => default
def srVer : AV → Nat
  | .sref _ v _ _ => v
  | _ => 0
def srOff : AV → Nat
  | .sref _ _ o _ => o
  | _ => 0
def srLen : AV → Nat
  | .sref _ _ _ l => l
  | _ => 0
def shapeT (x0 x : Tree) : Bool :=
  match x0 with
  | .int k _ => isIntT k x
  | .bool _ => isBoolT x
  | .str _ => isStrT x
  | .sl s _ => isSlT s x
  | _ => true
def reshapeT (x0 x : Tree) : Tree :=
  match x0 with
  | .int k _ => .int k (intOf x)
  | .bool _ => .bool (boolOf x)
  | .str _ => .str (strOf x)
  | .sl s _ => .sl s (slOf x)
  | _ => x
/-- The same pointer or function. -/
def sameV : Nat → AV → AV → Bool
  | 0, _, _ => false
  | d + 1, v, v' => match v, v' with
    | .ptr i o, .ptr j p => i == j && o == p
    | .yld i, .yld j => i == j
    | .nilsl, .nilsl => true
    | .func (.func f) a b, .func (.func g) a' b' => f == g && sameL d a a' && sameL d b b'
    | _, _ => false
where
  sameL : Nat → List AV → List AV → Bool
  | _, [], [] => true
  | d, x :: xs, y :: ys => sameV d x y && sameL d xs ys
  | _, _, _ => false
def shapeV (v0 v : AV) : Bool :=
  match v0 with
  | .t x0 => isT v && shapeT x0 (treeOf v)
  | .sref r _ _ _ => match v with
    | .sref r' _ _ _ => r' == r
    | _ => false
  | .ptr i o => sameV 4 (.ptr i o) v
  | .yld i => sameV 4 (.yld i) v
  | .func f a b => sameV 4 (.func f a b) v
  | _ => true
def reshapeV (v0 v : AV) : AV :=
  match v0 with
  | .t x0 => .t (reshapeT x0 (treeOf v))
  | .sref r _ _ _ => .sref r (srVer v) (srOff v) (srLen v)
  | .ptr i o => .ptr i o
  | .yld i => .yld i
  | .func f a b => .func f a b
  | _ => v
def cellOf (o : AObj) (j : Nat) : AV :=
  match o with
  | .box cs => cs.getD j .undef
  | _ => .undef
def esOf : AObj → List (List Tree)
  | .row _ _ _ es => es
  | _ => []
def shapeCells : List AV → List AV → Bool
  | [], [] => true
  | c0 :: cs0, c :: cs => shapeV c0 c && shapeCells cs0 cs
  | _, _ => false
def reshapeCells (o : AObj) : List AV → Nat → List AV
  | [], _ => []
  | c0 :: cs0, j => reshapeV c0 (cellOf o j) :: reshapeCells o cs0 (j + 1)
def aggOf : AV → List AV
  | .agg cs => cs
  | _ => []
def isAgg : AV → Bool
  | .agg _ => true
  | _ => false
/-- The same for structs. -/
def shapeA (v0 v : AV) : Bool :=
  match v0 with
  | .agg cs0 => isAgg v && shapeCells cs0 (aggOf v)
  | v0 => shapeV v0 v
def reshapeA (v0 v : AV) : AV :=
  match v0 with
  | .agg cs0 => .agg (reshapeCells (.box (aggOf v)) cs0 0)
  | v0 => reshapeV v0 v
/-- What a slot looks like: as it is, or as is told. -/
def baseV (tm : Tmp → AV) (env : Env) (i : Tmp) : AV :=
  match env i with
  | .undef => tm i
  | v => v
def isEptr : AV → Bool
  | .eptr _ _ _ => true
  | _ => false
/-- A box of functions that captured data: it stays as it is. -/
def fixedO : AObj → Bool
  | .box cs => cs.any fun v => match v with
    | .func _ _ c => c.any isEptr
    | _ => false
  | _ => false
def shapeOk (o0 o : AObj) : Bool :=
  match o0, o with
  | .box cs0, .box cs => fixedO (.box cs0) || shapeCells cs0 cs
  | .row true _ _ _, _ => true
  | .row false _ s0 _, .row f _ s _ => !f && (s0 == 0 || s == s0)
  | .loop l0, .loop l => l.ended == l0.ended && l.busy == l0.busy && l.pending.isNone && l0.pending.isNone
  | _, _ => false
def busyOf : AObj → Bool
  | .loop l => l.busy
  | _ => false
def pendOf : AObj → Option Code
  | .loop l => l.pending
  | _ => none
def reshape (o0 o : AObj) : AObj :=
  match o0 with
  | .box cs => if fixedO (.box cs) then .box cs else .box (reshapeCells o cs 0)
  | .row false _ s0 _ => .row false o.ver (if s0 = 0 then o.size else s0) (esOf o)
  | o0 => o0
def shapesOk : Heap → Heap → Bool
  | [], _ => true
  | o0 :: h0, o :: h => shapeOk o0 o && shapesOk h0 h
  | _ :: _, [] => false
def unpackH : Heap → Nat → Heap → Heap
  | [], _, _ => []
  | o0 :: h0, i, hs => reshape o0 (hs.getD i default) :: unpackH h0 (i + 1) hs
/-- An object that stays as it is. -/
def still : AObj → Bool
  | .row true _ _ _ => true
  | .loop _ => true
  | .box cs => fixedO (.box cs)
  | _ => false
def slim : Heap → Heap → Heap
  | [], _ => []
  | o0 :: h0, o :: h => (if still o0 then .box [] else o) :: slim h0 h
  | _ :: _, [] => []
/-- If two objects are the same. -/
noncomputable def cndO (x y : AObj) (a : Option R) : Option R := @ite _ (x = y) (Classical.propDecidable _) a none
noncomputable def fixK : Heap → Heap → Option R → Option R
  | [], _, a => a
  | o0 :: h0, o :: h, a => if fixedO o0 then cndO o0 o (fixK h0 h a) else fixK h0 h a
  | _ :: _, [], _ => none
/-- Of a heap its first objects, if nothing in them leads further. -/
noncomputable def cutK (h0 : Heap) (h : Heap) (K : Heap → Option R) : Option R :=
  cnd (((h.take h0.length).all (obelow h0.length)) = true ∧ shapesOk h0 h = true) (fixK h0 h (K (slim h0 h))) none
/-- What is kept where ways meet. -/
noncomputable def packK (tm : Tmp → AV) (env0 : Env) (h0 : Heap) (L : List Tmp) (env : Env) (h : Heap) (K : List AV → Heap → Option R) : Option R :=
  cnd ((L.all fun i => below 4 h0.length (env i) && shapeA (baseV tm env0 i) (env i)) = true) (cutK h0 h fun hs => K (L.map env) hs) none
def findIdx (i : Tmp) : List Tmp → Nat → Option Nat
  | [], _ => none
  | x :: xs, k => if i = x then some k else findIdx i xs (k + 1)
def unpackE (tm : Tmp → AV) (W L : List Tmp) (env : Env) (s : List AV) : Env := fun i =>
  match findIdx i L 0 with
  | some k => reshapeA (baseV tm env i) (s.getD k .undef)
  | none => if W.contains i then .undef else env i
/-- The nil slices among the slots become rows. -/
def rowifyE (hi : Hints) : List Tmp → Env → Heap → (Env → Heap → Option R) → Option R
  | [], env, h, K => K env h
  | i :: L, env, h, K => match env i with
    | .nilsl => if hi.tree i then rowifyE hi L (env.put (some i) (.t (.sl (hi.rowsz i) []))) h K
      else rowifyE hi L (env.put (some i) (.sref h.length 0 0 0)) (h ++ [.row false 0 (hi.rowsz i) []]) K
    | _ => rowifyE hi L env h K

def join {S : Type} (J : S → Option R) (f : (S → Option R) → Option R) : Option R := f J

/-! ### regions -/
def guardK (ops : Array Oper) (o : Oper) (env : Env) (K1 K0 : Env → Option R) : Option R :=
  match o.guard with
  | none => K1 env
  | some (j, want) =>
    match (ops[j]?).bind (·.dst) with
    | some d => match env d with
      | .t (.bool b) =>
        cnd (b = true) (if want then K1 (env.put (some d) (.t (.bool true))) else K0 (env.put (some d) (.t (.bool true))))
          (if want then K0 (env.put (some d) (.t (.bool false))) else K1 (env.put (some d) (.t (.bool false))))
      | .tuple [] => K0 env
      | _ => none
    | none => none

def optAV (env : Env) : Option Operand → Option AV
  | some x => some (ev env x)
  | none => none

/-- What a map of functions holds at a key. -/
def alookM (n : Int) : List (Int × Nat) → (AV → Option R) → Option R
  | [], K => K (.tuple [.undef, .t (.bool false)])
  | p :: m, K => cnd (n = p.1) (K (.tuple [.func (.func p.2) [] [], .t (.bool true)])) (alookM n m K)
/-- A map whose keys are whole numbers, and whose values have a zero value. -/
def mapTy (P : Program) (t : TypeId) (k : IntKind) : Bool :=
  match P.underlying t with
  | some (.map key elem) => (match P.underlying key with
    | some (.int k') => decide (k' = k)
    | _ => false) && ((P.info? elem).bind (·.zero)).isSome
  | _ => false
def alookup (P : Program) (t : TypeId) (m x : AV) (K : AV → Option R) : Option R :=
  match m, x with
  | .t (.mp k l), .t (.int k' n) => cnd (k' = k ∧ mapTy P t k = true) (alookM n l K) none
  | _, _ => none

/-- The byte of a string at a place. -/
def byteAt (s : ByteArray) (i : Nat) : Int := match s[i]? with
  | some b => (b.toNat : Int)
  | none => 0
/-- Is it a list of bytes? -/
def isByteL : List Tree → Bool
  | [.int .u8 _] => true
  | _ => false
def okBytes (es : List (List Tree)) : Bool := es.all isByteL
def byteL : List Tree → UInt8
  | [.int .u8 n] => UInt8.ofNat n.toNat
  | _ => 0
def bytesOf (es : List (List Tree)) : ByteArray := (es.map byteL).foldl ByteArray.push ByteArray.empty
/-- A conversion, of bytes too. -/
def aconvB (P : Program) (h : Heap) (src dst : TypeId) (x : AV) (K : AV → Option R) : Option R :=
  match P.underlying src, P.underlying dst with
  | some (.slice e), some .string => match P.underlying e with
    | some (.int .u8) => elems h 1 x fun es => cnd (okBytes es = true) (K (.t (.str (bytesOf es)))) none
    | _ => none
  | _, _ => aconvert P src dst x K
def aindexS (P : Program) (t : TypeId) (x ix : AV) (K : AV → Option R) : Option R :=
  match P.underlying t, x, ix with
  | some .string, .t (.str s), .t (.int _ i) => cnd (0 ≤ i ∧ i < (s.size : Int)) (K (.t (.int .u8 (byteAt s i.toNat)))) none
  | _, _, _ => none
/-- Operations that leave the abstract heap as it is. -/
def qop (P : Program) (env : Env) (h : Heap) (op : Op) (K : AV → Option R) : Option R :=
  match op with
  | .move x | .assign x => K (ev env x)
  | .pick c a b => (asBool (ev env c)).bind fun t => cnd (t = true) (K (ev env a)) (K (ev env b))
  | .build t parts => abuild P t (parts.toList.map fun p => (p.1, ev env p.2)) K
  | .buildSlice t len parts => abuildSlice P t h len (parts.toList.map fun p => (p.1, ev env p.2)) K
  | .load t a => aload P t h (ev env a) fun v => retV P t v K
  | .binOp op t x y _ => abin P op t (ev env x) (ev env y) K
  | .unOp op _ x => aun op (ev env x) K
  | .convert src dst x => aconvB P h src dst (ev env x) K
  | .makeFunc fn first captured => match fn with
    | .yield _ => none
    | fn => K (.func fn (first.toList.map (ev env)) (captured.toList.map (ev env)))
  | .slice t x lo hi mx => aslice P t h (ev env x) (optAV env lo) (optAV env hi) (optAV env mx) K
  | .fieldAddr t x f => afield P t h (ev env x) f K
  | .indexAddr t x ix => aindex P t h (ev env x) (ev env ix) K
  | .extract t i => match ev env t with
    | .tuple vs => match vs[i]? with
      | some v => K v
      | none => none
    | _ => none
  | .nilCheck x => match ev env x with
    | .ptr i off => K (.ptr i off)
    | .eptr s c off => K (.eptr s c off)
    | .func (.func f) a b => K (.func (.func f) a b)
    | .yld i => K (.yld i)
    | .rptr i v k off => K (.rptr i v k off)
    | _ => none
  | .lookup t m x true => alookup P t (ev env m) (ev env x) K
  | .index t x ix => aindexS P t (ev env x) (ev env ix) K
  | .call { callee := .builtin .len, args, argTypes } => match args.toList, argTypes.toList with
    | [x], [t] => alen P t h (ev env x) K
    | _, _ => none
  | .call { callee := .builtin .max, args, .. } => amaxL true (args.toList.map (ev env)) K
  | .call { callee := .builtin .min, args, .. } => amaxL false (args.toList.map (ev env)) K
  | _ => none

/-- Is a slice nil? An empty one may be. -/
noncomputable def nilK (v : AV) (K : Bool → Option R) : Option R :=
  match v with
  | .t (.sl _ es) => cnd (es.length ≠ 0) (K false) (both (K true) (K false))
  | .nilsl => both (K true) (K false)
  | _ => none

/-- Operations that turn the abstract heap. -/
noncomputable def hop (P : Program) (tf : TypeId → Bool) (env : Env) (h : Heap) (op : Op) (K : AV → Heap → Option R) : Option R :=
  match op with
  | .alloc t => match zeroCells? P t with
    | some z => allocBox P t (nilTs P tf (leafTys P 16 t) z) h K
    | none => none
  | .box t x => match (ev env x).cells with
    | some cs => allocBox P t (nilTs P tf (leafTys P 16 t) cs) h K
    | none => none
  | .store t a x => astore P t h (ev env a) (nilV P tf t (ev env x)) fun h' => K .undef h'
  | .binOp .eql t x (.const (.slice none 0 0)) _ => match P.underlying t with
    | some (.slice _) => nilK (ev env x) fun b => K (.t (.bool b)) h
    | _ => none
  | .call { callee := .builtin .append, args, argTypes } => match args.toList, argTypes.toList with
    | [s, x], [t, t'] => cnd (t' = t) (if sameRow (ev env s) (ev env x) then aappendIn P t h (ev env s) (ev env x) K else aappend P t h (ev env s) (ev env x) K) none
    | _, _ => none
  | .call { callee := .builtin .clear, args, argTypes } => match args.toList, argTypes.toList with
    | [x], [t] => aclear P t h (ev env x) fun h' => K (.tuple []) h'
    | _, _ => none
  | .call { callee := .builtin .copy, args, argTypes } => match args.toList, argTypes.toList with
    | [d, x], [t, _] => acopy P t h (ev env d) (ev env x) K
    | _, _ => none
  | .makeSlice t n c => amake P t h (ev env n) (ev env c) K
  | _ => none

def isHop : Op → Bool
  | .binOp .eql _ _ (.const (.slice none 0 0)) _ => true
  | .alloc _ | .box _ _ | .store _ _ _ | .makeSlice _ _ _ => true
  | .call { callee := .builtin .append, .. } | .call { callee := .builtin .clear, .. } | .call { callee := .builtin .copy, .. } => true
  | _ => false
def isCall : Op → Bool
  | .call { callee := .value _, .. } => true
  | _ => false

def paramTs (P : Program) (g : FuncId) : List TypeId :=
  match P.funcs[g]? with
  | some fn => fn.params.toList
  | none => []

/-- What a call made that nothing leads to is dropped. -/
def trim (m : Nat) (rs : List AV) (h : Heap) : Heap := if rs.all (below 4 m) && (h.take m).all (obelow m) then h.take m else h

/-- The first row among values, with its version. -/
def ownRef (h : Heap) : List AV → Option (Nat × Nat)
  | [] => none
  | .sref i _ _ _ :: _ => match h[i]? with
    | some (.row false v _ _) => some (i, v)
    | _ => none
  | _ :: vs => ownRef h vs
def onlyRef (i : Nat) (ls : List AV) : Bool := ls.all fun v => match v with
  | .sref j _ _ _ => j == i
  | _ => true
/-- Where the new row of an own function goes. -/
def putOwn (reuse : Bool) (h : Heap) (ls : List AV) (z : Nat) (es : List (List Tree)) (K : AV → Heap → Option R) : Option R :=
  match (if reuse then ownRef h ls else none) with
  | some (i, v) => if onlyRef i ls then K (.sref i (v + 1) 0 es.length) (h.set i (.row false (v + 1) z es)) else none
  | none => K (.sref (freezeAll h ls).length 0 0 es.length) (freezeAll h ls ++ [.row false 0 z es])

/-- What a result of a scalar type looks like. -/
def tyT (P : Program) (t : TypeId) : AV :=
  match P.underlying t with
  | some (.int k) => .t (.int k 0)
  | some .bool => .t (.bool false)
  | some .string => .t (.str ByteArray.empty)
  | _ => .undef
def shapeL (P : Program) : List TypeId → List AV → Bool
  | [], [] => true
  | t :: ts, v :: vs => isT v && shapeV (tyT P t) v && shapeL P ts vs
  | _, _ => false
def reshapeL (P : Program) (s : List AV) : List TypeId → Nat → List AV
  | [], _ => []
  | t :: ts, k => reshapeV (tyT P t) (s.getD k .undef) :: reshapeL P s ts (k + 1)

/-- From here on numbers stand for functions whose result is new and the caller's own. -/
def OWN : Nat := 1000000

noncomputable def fcall (C : Cfg) (rec : Rec) (pc : PRec) (q : Bool) (g : FuncId) (avs : List AV) (h : Heap) (K : AV → Heap → Option R) : Option R :=
  if C.own g then
    if q then none else
    flatK C.P (paramTs C.P g) avs fun ls => convs C.P true (freezeAll h ls) (paramTys C.P g) ls fun xs => (pc (OWN + g) xs).bind fun ys =>
      match resTys C.P g with
      | [t] => (elemSz C.P t).bind fun z => cnd (ys.length = 1 ∧ isSlT z (ys.getD 0 default) = true) (putOwn (C.reuse g) h ls z (slOf (ys.getD 0 default)) K) none
      | _ => none
  else if C.heapful g then
    if q then none else match C.prim g with
    | some p => aprim p h avs K
    | none => if C.joinc g then
        join (fun (p : List AV × Heap) => match mkRes C.P g (fun i => (reshapeL C.P p.1 (resTys C.P g) 0).getD i .undef) with
            | some v => K v (unpackH h 0 p.2)
            | none => none)
          fun J => rec R (.fn g avs) h fun rs h1 => cnd (shapeL C.P (resTys C.P g) rs = true) (cutK h h1 fun hs => J (rs, hs)) none
      else rec R (.fn g avs) h fun rs h1 => match mkRes C.P g (fun i => rs.getD i .undef) with
        | some v => K v (trim h.length rs h1)
        | none => none
  else
    flatK C.P (paramTs C.P g) avs fun ls =>
      let h1 := if q || scalarRes C.P g then h else freezeAll h ls
      convs C.P (!scalarRes C.P g) h1 (paramTys C.P g) ls fun xs => cnd (g < OWN) ((pc g xs).bind fun ys => retYs C.P (resTys C.P g) ys fun ys =>
        match mkRes C.P g (fun i => .t (ys.getD i default)) with
        | some v => K v h1
        | none => none) none

/-- Is the function one with a Go body? -/
def enters (P : Program) (g : FuncId) : Bool :=
  match P.funcs[g]? with
  | some fn => fn.body.isSome && !(fn.name == "runtime.NumGoroutine")
  | none => false

noncomputable def callK (C : Cfg) (rec : Rec) (pc : PRec) (q : Bool) (f : AV) (args : List AV) (h : Heap) (K : AV → Heap → Option R) : Option R :=
  match f with
  | .func (.func g) first captured => cnd (enters C.P g = true) (fcall C rec pc q g (first ++ args ++ captured) h K) none
  | .t (.const (.func (.func g) ⟨[]⟩ ⟨[]⟩)) => cnd (enters C.P g = true) (fcall C rec pc q g args h K) none
  | .yld i => if q then none else rec R (.yield i args) h fun rs h1 => K (rs.getD 0 .undef) (trim h.length [rs.getD 0 .undef] h1)
  | _ => none

def condKey : Operand → Nat
  | .tmp t => t
  | _ => 0

/-- A variable that is stored into once, where it is made. -/
inductive Imm where
  | box (t : TypeId) (x : Operand)
  | alloc (t : TypeId)
  | store (t : TypeId) (a x : Operand)
  | no
def immOf (C : Cfg) : Op → Imm
  | .box t x => if C.cur (condKey x) then .box t x else .no
  | .alloc t => if C.curT t then .alloc t else .no
  | .store t a x => if C.curT t then .store t a x else .no
  | _ => .no
def boxImm (P : Program) (t : TypeId) (v : AV) (h : Heap) (K : AV → Option R) : Option R :=
  match v.cells, szOf P t with
  | some cs, some n => cnd (cs.length = n) (convs P true h (leafTys P 16 t) cs fun xs => K (.eptr n xs 0)) none
  | _, _ => none

def allocImm (P : Program) (t : TypeId) (h : Heap) (K : AV → Heap → Option R) : Option R :=
  match zeroCells? P t, szOf P t with
  | some z, some n => cnd (n ≠ 0 ∧ z.length = n) (convs P true h (leafTys P 16 t) z fun xs => K (.rptr h.length 0 0 0) (h ++ [.row false 0 n [xs]])) none
  | _, _ => none
def rptrRow : AV → AV
  | .rptr i _ _ _ => .sref i 0 0 0
  | _ => .undef

noncomputable def stepK (C : Cfg) (rec : Rec) (pc : PRec) (q : Bool) (env : Env) (h : Heap) (op : Op) (K : AV → Heap → Option R) : Option R :=
  if isHop op then (if q then none else match immOf C op with
    | .box t x => boxImm C.P t (ev env x) h fun v => K v h
    | .alloc t => allocImm C.P t h K
    | .store t a x => astore C.P t h (ev env a) (ev env x) fun h' => K .undef (freeze1 h' (rptrRow (ev env a)))
    | .no => hop C.P C.curN env h op K)
  else match op with
    | .call { callee := .value f, args, .. } => callK C rec pc q (ev env f) (args.toList.map (ev env)) h K
    | .buildSlice t len parts => if C.fnTy t then (if q then none else abuildBsl C.P t h len (parts.toList.map fun p => (p.1, ev env p.2)) K) else qop C.P env h (.buildSlice t len parts) fun v => K v h
    | op => qop C.P env h op fun v => K v h

def dstOk (N : Nat) (o : Oper) : Bool :=
  match o.dst with
  | some d => decide (d < N)
  | none => true

noncomputable def aopsK (C : Cfg) (rec : Rec) (pc : PRec) (N : Nat) (q : Bool) (ops : Array Oper) : List Oper → Env → Heap → (Env → Heap → Option R) → Option R
  | [], env, h, K => K env h
  | o :: rest, env, h, K => cnd (dstOk N o = true) (guardK ops o env (fun env => stepK C rec pc q env h o.op fun v h' => aopsK C rec pc N q ops rest (env.put o.dst v) h' K)
        (fun env => aopsK C rec pc N q ops rest (env.put o.dst (.tuple [])) h K)) none

/-- What an operation comes behind, as a number's bits. -/
def maskOf (acc : List Nat) (o : Oper) : Nat := o.after.toList.foldl (fun s e => if Region.binds .any e then s ||| (2 ^ e.on ||| acc.getD e.on 0) else s) 0
def masksFrom : List Oper → List Nat → List Nat
  | [], acc => acc
  | o :: os, acc => masksFrom os (acc ++ [maskOf acc o])
def masks (ops : Array Oper) : List Nat := masksFrom ops.toList []
/-- Every operation from n on comes behind all those before it. -/
def forcedFrom (b : List Nat) (size n : Nat) : Bool := (List.range size).all fun j => decide (j < n) || (b.getD j 0 == 2 ^ j - 1)
/-- Where the operations whose order is open end. -/
def drawSplit (b : List Nat) (size : Nat) : Nat :=
  match ((List.range (size + 1)).find? fun n => forcedFrom b size n) with
  | some n => n
  | none => size
def edgesOk (ops : Array Oper) : Bool := (List.range ops.size).all fun j => match ops[j]? with
  | some o => o.after.toList.all fun e => !Region.binds .any e || decide (e.on < j)
  | none => true
/-- Whatever touches is ordered. -/
def drawOk (ops : Array Oper) (b : List Nat) (n : Nat) : Bool :=
  (List.range n).all fun j => (List.range j).all fun i => (b.getD j 0).testBit i || (match ops[i]?, ops[j]? with
    | some x, some y => x.apart ops y
    | _, _ => false)

/-- Operations that make or turn memory, each with one outcome. -/
def loudOp (C : Cfg) : Op → Bool
  | .alloc _ | .box _ _ | .store _ _ _ | .makeSlice _ _ _ => true
  | .call { callee := .builtin .append, .. } | .call { callee := .builtin .clear, .. } | .call { callee := .builtin .copy, .. } => true
  | .call { callee := .value (.func g), .. } => C.own g
  | .buildSlice t _ _ => C.fnTy t
  | _ => false
/-- A call that is evaluated in place. -/
def heapCall (C : Cfg) : Op → Bool
  | .call { callee := .value (.func g), .. } => C.heapful g && !C.own g
  | _ => false
/-- A value that leads to nothing that may change. -/
def hfree : Nat → AV → Bool
  | 0, _ => false
  | d + 1, v => match v with
    | .undef | .t _ | .nilsl | .eptr _ _ _ => true
    | .func _ f c => f.all (hfree d) && c.all (hfree d)
    | .agg cs | .tuple cs => cs.all (hfree d)
    | _ => false
/-- The object that a value leads to. -/
def objOf : AV → Option Nat
  | .ptr i _ | .rptr i _ _ _ | .sref i _ _ _ | .bsl i _ _ _ => some i
  | _ => none
/-- Operations that look at no object. -/
def blindOp : Op → Bool
  | .move _ | .assign _ | .pick _ _ _ | .build _ _ | .binOp _ _ _ _ _ | .unOp _ _ _ | .makeFunc _ _ _ | .extract _ _ | .nilCheck _ => true
  | .call { callee := .builtin .max, .. } | .call { callee := .builtin .min, .. } => true
  | _ => false
/-- May the value be looked at while only objects outside S are turned? -/
def readsOk (S : List Nat) (v : AV) : Bool := hfree 4 v || (match objOf v with
  | some i => S.contains i
  | none => false)
def hfreeOp (S : List Nat) (env : Env) (op : Op) : Bool := blindOp op || op.operands.toList.all fun x => readsOk S (ev env x)
/-- The objects that a loud operation may turn. -/
def touch (env : Env) : Op → List Nat
  | .store _ a _ => (objOf (ev env a)).toList
  | .call { callee := .builtin _, args, .. } => match args.toList with
    | s :: _ => (objOf (ev env s)).toList
    | [] => []
  | .call { callee := .value _, args, .. } => (args.toList.map fun x => match (ev env x).cells with
    | some cs => cs.filterMap objOf
    | none => []).flatten
  | _ => []
def apartS (S T : List Nat) : Bool := T.all fun i => !S.contains i
def insideS (S : List Nat) (h : Heap) : Bool := S.all fun i => decide (i < h.length)
def loudAt (C : Cfg) (ops : Array Oper) (i : Nat) : Bool :=
  match ops[i]? with
  | some o => loudOp C o.op || heapCall C o.op
  | none => false
def unord (b : List Nat) (i j : Nat) : Bool := if i < j then !((b.getD j 0).testBit i) else !((b.getD i 0).testBit j)
/-- Must it be free: is it open whether a loud one comes ahead? -/
def needFree (C : Cfg) (ops : Array Oper) (b : List Nat) (n i : Nat) : Bool := (List.range n).any fun j => loudAt C ops j && (j != i) && unord b i j
def drawOk2 (C : Cfg) (ops : Array Oper) (b : List Nat) (n : Nat) : Bool :=
  (List.range n).all fun j => (List.range j).all fun i => (b.getD j 0).testBit i || (!(loudAt C ops i && loudAt C ops j) && (match ops[i]?, ops[j]? with
    | some x, some y => x.apart ops y
    | _, _ => false))
noncomputable def aopsI (C : Cfg) (rec : Rec) (pc : PRec) (N : Nat) (ops : Array Oper) (S : List Nat) (nf : Nat → Bool) : List Nat → Env → Heap → (Env → Heap → Option R) → Option R
  | [], env, h, K => K env h
  | i :: l, env, h, K => match ops[i]? with
    | some o => cnd (dstOk N o = true ∧ (nf i = true → hfreeOp S env o.op = true) ∧ insideS S h = true ∧ (loudOp C o.op = true → apartS S (touch env o.op) = true)) (guardK ops o env (fun env => stepK C rec pc (!loudOp C o.op) env h o.op fun v h' => aopsI C rec pc N ops S nf l (env.put o.dst v) h' K)
        (fun env => aopsI C rec pc N ops S nf l (env.put o.dst (.tuple [])) h K)) none
    | none => none
/-- What a slot of a region leads to, as it was ahead of the region. -/
def chase (ops : List Oper) (env : Env) (h : Heap) : Nat → Operand → List Nat
  | 0, _ => []
  | d + 1, .tmp t => match ops.find? (fun o => o.dst == some t) with
    | some o => match o.op with
      | .move x | .assign x | .nilCheck x | .fieldAddr _ x _ | .indexAddr _ x _ | .slice _ x _ _ _ => chase ops env h d x
      | .load _ a => ((chase ops env h d a).map fun i => match h[i]? with
        | some (.box cs) => cs.filterMap objOf
        | _ => []).flatten
      | _ => []
    | none => (objOf (env t)).toList
  | _, _ => []
/-- The objects that the free operations may look at. -/
def looks (ops : Array Oper) (nf : Nat → Bool) (n : Nat) (env : Env) (h : Heap) : List Nat :=
  (((List.range n).map fun i => match ops[i]? with
    | some o => if nf i && !blindOp o.op then (o.op.operands.toList.map (chase ops.toList env h 8)).flatten else []
    | none => []).flatten.eraseDups).filter fun i => decide (i < h.length)
/-- A box of pointers that stayed as it was. -/
def samePtrs : List AV → List AV → Bool
  | [], [] => true
  | .ptr i o :: xs, .ptr j p :: ys => i == j && o == p && samePtrs xs ys
  | _, _ => false
def sameAt (h h' : Heap) (i : Nat) : Bool :=
  match h[i]?, h'[i]? with
  | some (.box xs), some (.box ys) => samePtrs xs ys
  | _, _ => false

def hasGuard (ops : Array Oper) : Bool := ops.toList.any (·.guard.isSome)
def dsts (ops : Array Oper) : List Tmp := ops.toList.filterMap (·.dst)

def writes : Code → List Tmp
  | .region _ ops _ => dsts ops
  | .seq a b => writes a ++ writes b
  | .cond _ a b => writes a ++ writes b
  | .block _ a => writes a
  | .loop a => writes a
  | .scope a => writes a
  | _ => []
/-- Can the code be left at its end? -/
def falls : Code → Bool
  | .ret | .exit _ | .goto _ | .loop _ | .refuse _ => false
  | .seq a b => falls a && falls b
  | .cond _ a b => falls a || falls b
  | _ => true
def exits (id : Nat) : Code → Nat
  | .exit i => if i = id then 1 else 0
  | .seq a b => exits id a + exits id b
  | .cond _ a b => exits id a + exits id b
  | .block _ a => exits id a
  | .loop a => exits id a
  | .scope a => exits id a
  | .rangeFunc _ _ _ a => exits id a
  | _ => 0
def firstReg : Code → Nat
  | .region id _ _ => id
  | .seq a _ => firstReg a
  | .cond _ a _ => firstReg a
  | .block _ a => firstReg a
  | .loop a => firstReg a
  | .scope a => firstReg a
  | _ => 0
/-- A call in place at the end of the open part. -/
noncomputable def lastK (C : Cfg) (rec : Rec) (pc : PRec) (N : Nat) (S : List Nat) (o : Oper) (env : Env) (h : Heap) (K : Env → Heap → Option R) : Option R :=
  cnd (dstOk N o = true ∧ o.guard = none) (stepK C rec pc false env h o.op fun v h' => cnd (S.all (sameAt h h') = true) (K (env.put o.dst v) h') none) none
/-- Pairs of operations that make or turn memory, and whose order is open. -/
def badPairs (C : Cfg) (ops : Array Oper) (b : List Nat) (n : Nat) : List (Nat × Nat) :=
  ((List.range n).map fun j => ((List.range j).filter fun i => !(b.getD j 0).testBit i && (loudAt C ops i && loudAt C ops j)).map fun i => (i, j)).flatten
/-- The same as drawOk2, but for one pair. -/
def drawOkP (C : Cfg) (ops : Array Oper) (b : List Nat) (n i0 j0 : Nat) : Bool :=
  (List.range n).all fun j => (List.range j).all fun i => (b.getD j 0).testBit i || (i == i0 && j == j0) || (!(loudAt C ops i && loudAt C ops j) && (match ops[i]?, ops[j]? with
    | some x, some y => x.apart ops y
    | _, _ => false))
/-- The order in which the later one of a pair comes first. -/
def order2 (b : List Nat) (n i0 j0 : Nat) : List Nat :=
  ((List.range n).filter fun k => decide (k ≤ j0) && !(k == i0 || (b.getD k 0).testBit i0)) ++ (((List.range n).filter fun k => decide (k ≤ j0) && (k == i0 || (b.getD k 0).testBit i0)) ++ (List.range n).filter fun k => decide (j0 < k))
def ordOk (b : List Nat) : List Nat → Bool
  | [] => true
  | x :: l => l.all (fun y => !(b.getD x 0).testBit y) && ordOk b l
def pairOk (C : Cfg) (ops : Array Oper) (b : List Nat) (n i0 j0 : Nat) : Bool :=
  drawOkP C ops b n i0 j0 && ((order2 b n i0 j0).isPerm (List.range n) && (ordOk b (order2 b n i0 j0) && decide ((order2 b n i0 j0).idxOf j0 < (order2 b n i0 j0).idxOf i0)))
/-- A call through a value. -/
def isCallV : Op → Bool
  | .call { callee := .value _, .. } => true
  | _ => false
/-- What a slot of a region is, as far as it is a copy of one ahead of the region. -/
def copyOf (ops : List Oper) (env : Env) : Nat → Operand → AV
  | d + 1, .tmp t => match ops.find? (fun o => o.dst == some t) with
    | some o => (match o.op with
      | .move x | .assign x => copyOf ops env d x
      | _ => .undef)
    | none => env t
  | _, x => ev env x
/-- A call of a closure that is evaluated in place. -/
def closCall (C : Cfg) (ops : Array Oper) (env : Env) (o : Oper) : Bool :=
  match o.op with
  | .call { callee := .value (.tmp t), .. } => (match copyOf ops.toList env 4 (.tmp t) with
    | .func (.func g) _ _ => C.heapful g && !C.own g
    | _ => false)
  | _ => false
/-- A call that is evaluated in place, somewhere in an open part of a region. -/
def midCall (C : Cfg) (ops : Array Oper) (lo hi : Nat) (env : Env) : Option Nat :=
  (List.range hi).find? fun i => decide (lo ≤ i) && match ops[i]? with
    | some o => closCall C ops env o || heapCall C o.op
    | none => false
/-- Is there one that is not the last? -/
def midAny (C : Cfg) (ops : Array Oper) (n : Nat) (env : Env) : Bool :=
  (List.range n).any fun i => match ops[i]? with
    | some o => closCall C ops env o || (heapCall C o.op && decide (i + 1 ≠ n))
    | none => false
/-- From k on, everything comes behind all that is ahead of k. -/
def cutAt (b : List Nat) (size k : Nat) : Bool := (List.range size).all fun j => decide (j < k) || (List.range k).all fun i => (b.getD j 0).testBit i
def cutList (b : List Nat) (size n : Nat) : List Nat := (List.range (n + 1)).filter fun k => decide (0 < k) && cutAt b size k
def cutsOk (b : List Nat) (size n : Nat) : List Nat → Nat → Bool
  | [], lo => lo == n
  | k :: ks, lo => decide (lo < k ∧ k ≤ n) && (cutAt b size k && cutsOk b size n ks k)
def loud3 (C : Cfg) (ops : Array Oper) (m0 : Option Nat) (i : Nat) : Bool := loudAt C ops i || m0 == some i
def nf3 (C : Cfg) (ops : Array Oper) (b : List Nat) (lo hi : Nat) (m0 : Option Nat) (i : Nat) : Bool := (List.range hi).any fun j => decide (lo ≤ j) && (loud3 C ops m0 j && (j != i) && unord b i j)
def segOk (C : Cfg) (ops : Array Oper) (b : List Nat) (lo hi : Nat) (m0 : Option Nat) : Bool :=
  ((List.range hi).all fun j => decide (j < lo) || (List.range j).all fun i => decide (i < lo) || ((b.getD j 0).testBit i || (!(loud3 C ops m0 i && loud3 C ops m0 j) && (match ops[i]?, ops[j]? with
    | some x, some y => x.apart ops y
    | _, _ => false)))) && (match m0 with
    | some m => decide (lo ≤ m ∧ m < hi) && (List.range hi).all fun j => decide (j < lo) || !(b.getD j 0).testBit m
    | none => true)
noncomputable def sameO (h h' : Heap) (i : Nat) (a : Option R) : Option R :=
  match h[i]?, h'[i]? with
  | some x, some y => cndO x y a
  | _, _ => none
noncomputable def sameAll (h h' : Heap) : List Nat → Option R → Option R
  | [], a => a
  | i :: S, a => sameO h h' i (sameAll h h' S a)
/-- The call at the end of a part. -/
noncomputable def lastG (C : Cfg) (rec : Rec) (pc : PRec) (N : Nat) (ops : Array Oper) (S : List Nat) (o : Oper) (env : Env) (h : Heap) (K : Env → Heap → Option R) : Option R :=
  cnd (dstOk N o = true) (guardK ops o env (fun env => stepK C rec pc false env h o.op fun v h' => sameAll h h' S (K (env.put o.dst v) h'))
    (fun env => cnd (insideS S h = true) (K (env.put o.dst (.tuple [])) h) none)) none
/-- A part of a region whose order is open. -/
noncomputable def segK (C : Cfg) (rec : Rec) (pc : PRec) (N : Nat) (ops : Array Oper) (b : List Nat) (lo hi : Nat) (env : Env) (h : Heap) (K : Env → Heap → Option R) : Option R :=
  match midCall C ops lo hi env with
  | some m0 => (match ops[m0]? with
    | some o => cnd (segOk C ops b lo hi (some m0) = true ∧ isCallV o.op = true)
      (aopsI C rec pc N ops (looks ops (nf3 C ops b lo hi (some m0)) hi env h) (nf3 C ops b lo hi (some m0)) ((List.range hi).filter fun i => decide (lo ≤ i) && i != m0) env h fun env' h' => lastG C rec pc N ops (looks ops (nf3 C ops b lo hi (some m0)) hi env h) o env' h' K) none
    | none => none)
  | none => cnd (segOk C ops b lo hi none = true) (aopsI C rec pc N ops (looks ops (nf3 C ops b lo hi none) hi env h) (nf3 C ops b lo hi none) ((List.range hi).filter fun i => decide (lo ≤ i)) env h K) none
noncomputable def segsK (C : Cfg) (rec : Rec) (pc : PRec) (N : Nat) (ops : Array Oper) (b : List Nat) : List Nat → Nat → Env → Heap → (Env → Heap → Option R) → Option R
  | [], _, env, h, K => K env h
  | k :: ks, lo, env, h, K => segK C rec pc N ops b lo k env h fun env' h' => segsK C rec pc N ops b ks k env' h' K
noncomputable def regionK (C : Cfg) (rec : Rec) (pc : PRec) (N : Nat) (ops : Array Oper) (draw : Bool) (env : Env) (h : Heap) (K : Env → Heap → Option R) : Option R :=
  if draw then
    let b := masks ops
    let n := drawSplit b ops.size
    let nf := needFree C ops b n
    match badPairs C ops b n with
    | [(i0, j0)] => cnd (pairOk C ops b n i0 j0 = true ∧ forcedFrom b ops.size n = true ∧ edgesOk ops = true ∧ n ≤ ops.size)
        (both (aopsI C rec pc N ops (looks ops nf n env h) nf (List.range n) env h fun env' h' => aopsK C rec pc N false ops (ops.toList.drop n) env' h' K)
          (aopsI C rec pc N ops (looks ops nf n env h) nf (order2 b n i0 j0) env h fun env' h' => aopsK C rec pc N false ops (ops.toList.drop n) env' h' K)) none
    | _ => match midAny C ops n env with
      | true => cnd (cutsOk b ops.size n (cutList b ops.size n) 0 = true ∧ forcedFrom b ops.size n = true ∧ edgesOk ops = true ∧ n ≤ ops.size)
          (segsK C rec pc N ops b (cutList b ops.size n) 0 env h fun env' h' => aopsK C rec pc N false ops (ops.toList.drop n) env' h' K) none
      | false => cnd (drawOk2 C ops b n = true ∧ forcedFrom b ops.size n = true ∧ edgesOk ops = true ∧ n ≤ ops.size) (match (match n with
        | m + 1 => match ops[m]? with
          | some o => if heapCall C o.op then some (m, o) else none
          | none => none
        | 0 => none) with
      | some (m, o) => aopsI C rec pc N ops (looks ops nf n env h) nf (List.range m) env h fun env' h' => lastK C rec pc N (looks ops nf n env h) o env' h' fun env' h' => aopsK C rec pc N false ops (ops.toList.drop n) env' h' K
      | none => aopsI C rec pc N ops (looks ops nf n env h) nf (List.range n) env h fun env' h' => aopsK C rec pc N false ops (ops.toList.drop n) env' h' K) none
  else aopsK C rec pc N false ops ops.toList env h K

def loopIter {S : Type} (body : S → (S → Option R) → Option R) : Nat → S → Option R
  | 0, _ => none
  | n + 1, s => body s (loopIter body n)

def exitOf : Code → Option Exit
  | .ret => some .ret
  | .exit id => some (.exit id)
  | _ => none
def jumpOf (h : Heap) (i : Nat) : Option (Option Code) :=
  match h[i]? with
  | some (.loop l) => if l.busy || l.ended then none else some l.pending
  | _ => none

noncomputable def aexec (C : Cfg) (hi : Hints) (fn : FuncId) (N : Nat) (rec : Rec) (pc : PRec) (fuel : Nat) : Code → Env → Heap → (Exit → Env → Heap → Option R) → Option R
  | .skip, env, h, K => K .normal env h
  | .label _, env, h, K => K .normal env h
  | .ret, env, h, K => K .ret env h
  | .exit id, env, h, K => K (.exit id) env h
  | .region id ops draw, env, h, K =>
    if hasGuard ops then
      join (fun (p : List AV × Heap) => K .normal (unpackE hi.tm (dsts ops) (hi.reg id) env p.1) (unpackH h 0 p.2))
        fun J => regionK C rec pc N ops draw env h fun env' h' => packK hi.tm env h (hi.reg id) env' h' fun s hs => J (s, hs)
    else regionK C rec pc N ops draw env h fun env' h' => K .normal env' h'
  | .seq a b, env, h, K => aexec C hi fn N rec pc fuel a env h fun e env' h' => match e with
    | .normal => aexec C hi fn N rec pc fuel b env' h' K
    | e => K e env' h'
  | .cond c a b, env, h, K => (asBool (ev env c)).bind fun t =>
    if falls a && falls b then
      rowifyE hi ((hi.cond (condKey c)).filter fun i => (writes a ++ writes b).contains i) env h fun env h =>
      join (fun (p : List AV × Heap) => K .normal (unpackE hi.tm (writes a ++ writes b) (hi.cond (condKey c)) env p.1) (unpackH h 0 p.2))
        fun J => cnd (t = true) (aexec C hi fn N rec pc fuel a env h (fun e env' h' => match e with
            | .normal => packK hi.tm env h (hi.cond (condKey c)) env' h' fun s hs => J (s, hs)
            | e => K e env' h'))
          (aexec C hi fn N rec pc fuel b env h (fun e env' h' => match e with
            | .normal => packK hi.tm env h (hi.cond (condKey c)) env' h' fun s hs => J (s, hs)
            | e => K e env' h'))
    else cnd (t = true) (aexec C hi fn N rec pc fuel a env h K) (aexec C hi fn N rec pc fuel b env h K)
  | .block id a, env, h, K =>
    if exits id a + (if falls a then 1 else 0) ≤ 1 then aexec C hi fn N rec pc fuel a env h fun e env' h' => match e with
      | .exit i => if i = id then K .normal env' h' else K (.exit i) env' h'
      | e => K e env' h'
    else
      rowifyE hi ((hi.block id).filter fun i => (writes a).contains i) env h fun env h =>
      join (fun (p : List AV × Heap) => K .normal (unpackE hi.tm (writes a) (hi.block id) env p.1) (unpackH h 0 p.2))
        fun J => aexec C hi fn N rec pc fuel a env h fun e env' h' => match e with
          | .normal => packK hi.tm env h (hi.block id) env' h' fun s hs => J (s, hs)
          | .exit i => if i = id then packK hi.tm env h (hi.block id) env' h' fun s hs => J (s, hs) else K (.exit i) env' h'
          | e => K e env' h'
  | .loop a, env, h, K => rowifyE hi ((hi.loop (firstReg a)).filter fun i => (writes a).contains i) env h fun env h =>
    packK hi.tm env h (hi.loop (firstReg a)) env h fun s hs =>
      loopIter (fun (p : List AV × Heap) again => aexec C hi fn N rec pc fuel a (unpackE hi.tm (writes a) (hi.loop (firstReg a)) env p.1) (unpackH h 0 p.2) fun e env' h' => match e with
        | .normal => packK hi.tm env h (hi.loop (firstReg a)) env' h' fun s hs => again (s, hs)
        | e => K e env' h') fuel (s, hs)
  | .rangeFunc f params assign body, env, h, K => match ev env f with
    | .func (.func g) first captured => if enters C.P g = false then none else
      rec R (.fn g (first ++ [.yld h.length] ++ captured)) (h ++ [.loop { fn, size := N, env, params := params.toList, assign, body, busy := false, pending := none, ended := false, hl := h.length }]) fun _ h1 =>
        (jumpOf h1 h.length).bind fun j => cnd (((h1.take h.length).all (obelow h.length)) = true) (match j with
          | none => K .normal env (h1.take h.length)
          | some c => (exitOf c).bind fun e => K e env (h1.take h.length)) none
    | _ => none
  | _, _, _, _ => none

def resK (P : Program) (env : Env) (h : Heap) : List ResultVar → (List AV → Option R) → Option R
  | [], K => K []
  | .tmp t :: rs, K => resK P env h rs fun vs => K (env t :: vs)
  | .cell a t :: rs, K => aload P t h (env a) fun v => resK P env h rs fun vs => K (v :: vs)

def setBusy (h : Heap) (i : Nat) (busy : Bool) (pending : Option Code) : Heap :=
  match h[i]? with
  | some (.loop l) => h.set i (.loop { l with busy, pending })
  | _ => h

def codeOf : Exit → Option Code
  | .ret => some .ret
  | .exit id => some (.exit id)
  | _ => none

def putAll (env : Env) : List Tmp → List AV → Env
  | t :: ts, v :: vs => putAll (env.put (some t) v) ts vs
  | _, _ => env

def notLoop : AObj → Bool
  | .loop _ => false
  | _ => true
/-- Is there a loop that has not ended? -/
def openAt (h : Heap) (i : Nat) : Bool :=
  match h[i]? with
  | some (.loop l) => !l.ended
  | _ => false
def readyAt (h : Heap) (i : Nat) : Bool :=
  match h[i]? with
  | some (.loop l) => !l.ended && !l.busy && l.pending.isNone
  | _ => false

/-- A function's body. -/
noncomputable def bodyK (C : Cfg) (rec : Rec) (pc : PRec) (n : Nat) (g : FuncId) (avs : List AV) (h : Heap) (K : List AV → Heap → Option R) : Option R :=
  match C.P.funcs[g]? with
  | some fn => match fn.body with
    | some c => cnd (avs.length ≤ fn.ntmps) (aexec (C.at g) (C.hints g) g fn.ntmps rec pc n c (fun i => avs.getD i .undef) h fun e env h' => match e with
          | .normal | .ret => cnd (((h'.drop h.length).all notLoop) = true) (resK C.P env h' fn.results.toList fun vs => flatK C.P fn.resultTypes.toList vs fun rs => K rs h') none
          | _ => none) none
    | none => none
  | none => none

/-- A round of a range over a function. -/
noncomputable def roundK (C : Cfg) (rec : Rec) (pc : PRec) (n : Nat) (i : Nat) (args : List AV) (h : Heap) (K : List AV → Heap → Option R) : Option R :=
  match h[i]? with
  | some (.loop l) =>
    cnd (l.busy = false ∧ l.ended = false ∧ l.pending.isNone = true ∧ args.length = l.params.length ∧ (l.params.all fun t => decide (t < l.size)) = true) (aexec (C.at l.fn) (C.hints l.fn) l.fn l.size rec pc n l.assign (putAll l.env l.params args) h fun e env h' => match e with
        | .normal => cnd (readyAt h' i = true) (aexec (C.at l.fn) (C.hints l.fn) l.fn l.size rec pc n l.body env (setBusy h' i true none) fun e _ h' => cnd (openAt h' i = true) ((match e with
          | .normal => K [.t (.bool true)] (setBusy h' i false none)
          | e => (codeOf e).bind fun c => K [.t (.bool false)] (setBusy h' i false (some c)))) none) none
        | _ => none) none
  | _ => none

/-- Calls in place, to a depth. -/
noncomputable def inl (C : Cfg) (pc : PRec) (n : Nat) : Nat → Rec
  | 0 => fun _ _ _ _ => none
  | d + 1 => fun _ r h K => match r with
    | .fn g avs => bodyK C (inl C pc n d) pc n g avs h K
    | .yield i args => roundK C (inl C pc n d) pc n i args h K

noncomputable def pureK (C : Cfg) (rec : Rec) (pc : PRec) (n : Nat) (g : FuncId) (xs : List Tree) : Option (List Tree) :=
  match mkArgs C.P g (fun i => .t (xs.getD i default)) with
  | some avs => bodyK C rec pc n g avs [] fun rs h' => convs C.P false h' (resTys C.P g) rs fun ys => cnd (scalarRes C.P g = true → ys.all Tree.scalar = true) (some ys) none
  | none => none

/-- One result that is no struct. -/
def plainRes (P : Program) (g : FuncId) : Bool :=
  match P.funcs[g]? with
  | some fn => match fn.resultTypes.toList with
    | [t] => isAggT P t == some false
    | _ => false
  | none => false
/-- A function whose result is new: its contents. -/
noncomputable def ownPureK (C : Cfg) (rec : Rec) (pc : PRec) (n : Nat) (g : FuncId) (xs : List Tree) : Option (List Tree) :=
  match mkArgs C.P g (fun i => .t (xs.getD i default)), resTys C.P g with
  | some avs, [t] => (elemSz C.P t).bind fun z => cnd (plainRes C.P g = true) (bodyK C rec pc n g avs [] fun rs h' => match rs with
    | [.nilsl] => some [.sl z []]
    | [.sref i ver off len] => match h'[i]? with
      | some (.row false ver' size es) => cnd (ver' = ver ∧ size = z) (some [.sl z ((es.drop off).take len)]) none
      | _ => none
    | _ => none) none
  | _, _ => none

/-- A function without arguments that is known by a contract is known at once. -/
def pcx (C : Cfg) (pc : PRec) : PRec := fun g xs => match xs with
  | [] => if g < OWN then match C.ext g [] with
    | some ys => some ys
    | none => pc g []
    else pc g []
  | x :: xs => pc g (x :: xs)
noncomputable def apure (C : Cfg) : Nat → PRec
  | 0 => fun _ _ => none
  | n + 1 => fun g xs => if g < OWN then match C.ext g xs with
    | some ys => some ys
    | none => pureK C (inl C (pcx C (apure C n)) n C.depth) (pcx C (apure C n)) n g xs else ownPureK C (inl C (pcx C (apure C n)) n C.depth) (pcx C (apure C n)) n (g - OWN) xs

end Ab
