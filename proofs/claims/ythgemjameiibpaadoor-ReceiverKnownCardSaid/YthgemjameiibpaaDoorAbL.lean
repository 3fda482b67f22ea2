/- Soundness: regions whose order is open. -/
import Derived.Test.YthgemjameiibpaaDoorAbK
set_option linter.unusedVariables false
set_option linter.unusedSimpArgs false
namespace Ab
open Go

/-! ### quiet operations hand on one value -/
/-- A computation with a continuation that is handed at most one value. -/
def Det {α : Type} (f : ∀ R : Type, (α → Option R) → Option R) : Prop := (∃ v, ∀ R K, f R K = K v) ∨ ∀ R K, f R K = none

theorem Det.none {α : Type} : Det (α := α) (fun _ _ => Option.none) := .inr fun _ _ => rfl
theorem Det.val {α : Type} (v : α) : Det (fun _ K => K v) := .inl ⟨v, fun _ _ => rfl⟩
theorem Det.bind {α β : Type} (x : Option β) {f : β → ∀ R : Type, (α → Option R) → Option R} (hf : ∀ b, Det (f b)) : Det (fun R K => x.bind fun b => f b R K) := by
  cases x with
  | none => exact .none
  | some b => exact hf b
theorem Det.ite {α : Type} {c : Prop} [Decidable c] {f : ∀ R : Type, (α → Option R) → Option R} (hf : Det f) : Det (fun R K => if c then f R K else Option.none) := by
  by_cases hc : c
  · simp only [if_pos hc]; exact hf
  · simp only [if_neg hc]; exact .none
theorem Det.ite2 {α : Type} {c : Prop} [Decidable c] {f g : ∀ R : Type, (α → Option R) → Option R} (hf : Det f) (hg : Det g) : Det (fun R K => if c then f R K else g R K) := by
  by_cases hc : c
  · simp only [if_pos hc]; exact hf
  · simp only [if_neg hc]; exact hg
theorem Det.comp {α β : Type} {f : ∀ R : Type, (β → Option R) → Option R} (hf : Det f) {g : β → ∀ R : Type, (α → Option R) → Option R} (hg : ∀ b, Det (g b)) : Det (fun R K => f R fun b => g b R K) := by
  rcases hf with ⟨v, hv⟩ | hn
  · simp only [hv]; exact hg v
  · simp only [hn]; exact .none

variable {P : Program} {h : Heap}

theorem det_rd (t : TypeId) (total : Nat) (get : Nat → AV) (off : Nat) : Det (fun R K => rd (R := R) P t total get off K) := by
  unfold rd
  try simp only [cnd_eq]
  cases isAggT P t with
  | none => exact .none
  | some b =>
    cases b with
    | false => exact .ite (.val _)
    | true =>
      cases szOf P t with
      | none => exact .none
      | some n => exact .ite (.val _)
theorem det_aload (t : TypeId) (a : AV) : Det (fun R K => aload (R := R) P t h a K) := by
  unfold aload
  try simp only [cnd_eq]
  cases a with
  | ptr i off =>
    dsimp only
    cases h[i]? with
    | none => exact .none
    | some o => cases o with
      | box cs => exact det_rd _ _ _ _
      | _ => exact .none
  | rptr i ver k off =>
    dsimp only
    cases h[i]? with
    | none => exact .none
    | some o => cases o with
      | row f v s es => exact .ite (.bind _ fun e => det_rd _ _ _ _)
      | _ => exact .none
  | eptr s c o => exact det_rd _ _ _ _
  | _ => exact .none
theorem det_conv (fz : Bool) (ty : TypeId) (v : AV) : Det (fun R K => conv (R := R) P fz h ty v K) := by
  unfold conv
  try simp only [cnd_eq]
  cases v with
  | t x => exact .val _
  | nilsl => exact .bind _ fun s => .val _
  | sref i ver off len =>
    dsimp only
    cases h[i]? with
    | none => exact .none
    | some o => cases o with
      | row f v s es => exact .bind _ fun s => .ite (.val _)
      | _ => exact .none
  | func fn a b =>
    cases a with
    | nil => cases b with
      | nil => exact .val _
      | cons x xs => exact .none
    | cons x xs => exact .none
  | _ => exact .none
theorem det_convs (fz : Bool) : ∀ (ts : List TypeId) (vs : List AV), Det (fun R K => convs (R := R) P fz h ts vs K)
  | [], [] => .val _
  | [], _ :: _ => .none
  | _ :: _, [] => .none
  | t :: ts, v :: vs => .comp (det_conv fz t v) fun x => .comp (det_convs fz ts vs) fun xs => .val _
theorem det_aarith (op : BinOp) (k : IntKind) (a b : Int) : Det (fun R K => aarith (R := R) op k a b K) := by
  unfold aarith
  try simp only [cnd_eq]
  cases op <;> first | exact .val _ | exact .none | skip
  · by_cases hb : b = 0
    · simp only [if_pos hb]; exact .none
    · simp only [if_neg hb]; exact .val _
  · by_cases hb : b = 0
    · simp only [if_pos hb]; exact .none
    · simp only [if_neg hb]; exact .val _
theorem det_ashift (op : BinOp) (k : IntKind) (a b : Int) : Det (fun R K => ashift (R := R) op k a b K) := by
  unfold ashift
  try simp only [cnd_eq]
  by_cases hb : b < 0
  · simp only [if_pos hb]; cases op <;> exact .none
  · simp only [if_neg hb]; cases op <;> first | exact .val _ | exact .none
theorem det_eqAt : ∀ (d : Nat) (t : TypeId) (gx gy : Nat → AV) (off : Nat), Det (fun R K => eqAt (R := R) P d t gx gy off K)
  | 0, t, gx, gy, off => .none
  | d + 1, t, gx, gy, off => by
    unfold eqAt
    try simp only [cnd_eq]
    cases hu : P.underlying t with
    | none => exact .none
    | some ty =>
      cases ty with
      | int k => exact .bind _ fun a => .bind _ fun b => .val _
      | bool => exact .bind _ fun a => .bind _ fun b => .val _
      | string => exact .bind _ fun a => .bind _ fun b => .val _
      | struct fs =>
        cases hs : szOf P t with
        | none => exact .none
        | some n =>
          refine .ite ?_
          have key : ∀ (l : List Field) (acc : Bool), Det (fun R (K : Bool → Option R) => l.foldr (fun f (K' : Bool → Option R) (acc : Bool) =>
              match szOf P f.type with
              | some m => if f.name ≠ "_" ∧ f.offset + m ≤ n ∧ (isAggT P f.type = some true ∨ isAggT P f.type = some false ∧ m = 1) then eqAt P d f.type gx gy (off + f.offset) fun b => K' (acc && b) else none
              | none => none) K acc) := by
            intro l
            induction l with
            | nil => intro acc; exact .val _
            | cons f l ih =>
              intro acc
              simp only [List.foldr_cons]
              cases szOf P f.type with
              | none => exact .none
              | some m => exact .ite (.comp (det_eqAt d _ _ _ _) fun b => ih _)
          exact key fs.toList true
      | _ => exact .none
theorem det_abin (op : BinOp) (t : TypeId) (x y : AV) : Det (fun R K => abin (R := R) P op t x y K) := by
  unfold abin
  try simp only [cnd_eq]
  cases hu : P.underlying t with
  | none => exact .none
  | some ty =>
    cases ty with
    | int k =>
      by_cases hs : isShift op = true
      · simp only [hs, if_true]; exact .bind _ fun a => .bind _ fun b => det_ashift _ _ _ _
      · simp only [hs, Bool.false_eq_true, if_false]; exact .bind _ fun a => .bind _ fun b => det_aarith _ _ _ _
    | bool => exact .bind _ fun a => .bind _ fun b => by cases op <;> first | exact .val _ | exact .none
    | string => exact .bind _ fun a => .bind _ fun b => by cases op <;> first | exact .val _ | exact .ite (.val _) | exact .none
    | struct fs =>
      cases x with
      | agg xs =>
        cases y with
        | agg ys =>
          cases szOf P t with
          | none => exact .none
          | some n => exact .ite (by cases op <;> first | exact .comp (det_eqAt _ _ _ _ _) (fun b => .val _) | exact .none)
        | _ => exact .none
      | _ => exact .none
    | _ => exact .none
theorem det_aun (op : UnOp) (x : AV) : Det (fun R K => aun (R := R) op x K) := by
  unfold aun
  cases op with
  | not => exact .bind _ fun b => .val _
  | neg => cases x with
    | t y => cases y <;> first | exact .val _ | exact .none
    | _ => exact .none
  | _ => exact .none
theorem det_amax_go (mx : Bool) : ∀ (l : List AV) (a : Int), Det (fun R K => amaxL.go (R := R) mx a l K)
  | [], a => .val _
  | y :: l, a => .bind _ fun b => det_amax_go mx l _
theorem det_amaxL (mx : Bool) (l : List AV) : Det (fun R K => amaxL (R := R) mx l K) := by
  cases l with
  | nil => exact .none
  | cons x l => exact .bind _ fun a => det_amax_go mx l a
theorem det_afield (t : TypeId) (a : AV) (f : Nat) : Det (fun R K => afield (R := R) P t h a f K) := by
  unfold afield
  try simp only [cnd_eq]
  refine .bind _ fun o => ?_
  cases a with
  | ptr i off => exact .val _
  | eptr s c o => exact .val _
  | rptr i v k o => exact .bind _ fun ob => .ite (.val _)
  | _ => exact .none
theorem det_pickI {α : Type} (i : Int) {f : Nat → α} : ∀ (n : Nat), Det (fun R (K : α → Option R) => pickI i n fun j => K (f j))
  | 0 => .none
  | n + 1 => by
    simp only [pickI, cnd_eq]
    exact .ite2 (.val _) (det_pickI i n)
theorem det_aindex (t : TypeId) (x ix : AV) : Det (fun R K => aindex (R := R) P t h x ix K) := by
  unfold aindex
  try simp only [cnd_eq]
  refine .bind _ fun i => ?_
  cases P.underlying t with
  | none => exact .none
  | some ty =>
    cases ty with
    | slice e =>
      refine .bind _ fun s => ?_
      cases x with
      | t y => cases y with
        | sl size es => exact .ite (.bind _ fun c => .val _)
        | _ => exact .none
      | sref r v o l =>
        dsimp only
        cases h[r]? with
        | none => exact .none
        | some o => cases o with
          | row f v s es => exact .ite (.val _)
          | _ => exact .none
      | bsl r o l s => exact .ite (.ite2 (det_pickI i l) (.val _))
      | _ => exact .none
    | array n e =>
      refine .bind _ fun s => ?_
      cases x with
      | ptr r off => exact .ite (.ite2 (det_pickI i n) (.val _))
      | _ => exact .none
    | _ => exact .none
theorem det_alen (t : TypeId) (x : AV) : Det (fun R K => alen (R := R) P t h x K) := by
  unfold alen
  try simp only [cnd_eq]
  cases P.underlying t with
  | none => exact .none
  | some ty =>
    cases ty with
    | slice e =>
      cases x with
      | t y => cases y with
        | sl size es => exact .val _
        | _ => exact .none
      | nilsl => exact .val _
      | sref r v o l =>
        dsimp only
        cases h[r]? with
        | none => exact .none
        | some o => cases o with
          | row f v s es => exact .ite (.val _)
          | _ => exact .none
      | bsl r o l s => exact .val _
      | _ => exact .none
    | string => exact .bind _ fun s => .val _
    | array n e => exact .val _
    | _ => exact .none
theorem det_abound (x : Option AV) (d hi : Nat) : Det (fun R K => abound (R := R) x d hi K) := by
  unfold abound
  try simp only [cnd_eq]
  cases x with
  | none => exact .val _
  | some v => exact .bind _ fun i => .ite (.val _)
theorem det_aslice (t : TypeId) (x : AV) (lo hi mx : Option AV) : Det (fun R K => aslice (R := R) P t h x lo hi mx K) := by
  unfold aslice
  try simp only [cnd_eq]
  cases mx with
  | some m =>
    cases P.underlying t with
    | none => exact .none
    | some ty =>
      cases ty with
      | slice e =>
        refine .bind _ fun z => ?_
        cases hi with
        | none => cases x with
          | t y => cases y <;> exact .none
          | _ => exact .none
        | some b =>
          cases x with
          | t y => cases y with
            | sl size es => exact .ite (.comp (det_abound _ _ _) fun m => .comp (det_abound _ _ _) fun b => .comp (det_abound _ _ _) fun a => .val _)
            | _ => exact .none
          | nilsl => exact .comp (det_abound _ _ _) fun m => .comp (det_abound _ _ _) fun b => .comp (det_abound _ _ _) fun a => .val _
          | sref r v o l =>
            dsimp only
            cases h[r]? with
            | none => exact .none
            | some o => cases o with
              | row f v s es => exact .ite (.comp (det_abound _ _ _) fun m => .comp (det_abound _ _ _) fun b => .comp (det_abound _ _ _) fun a => .val _)
              | _ => exact .none
          | _ => exact .none
      | _ => exact .none
  | none =>
    cases P.underlying t with
    | none => exact .none
    | some ty =>
      cases ty with
      | string => exact .bind _ fun s => .comp (det_abound _ _ _) fun b => .comp (det_abound _ _ _) fun a => .val _
      | slice e =>
        refine .bind _ fun z => ?_
        cases x with
        | t y => cases y with
          | sl size es => exact .ite (.comp (det_abound _ _ _) fun b => .comp (det_abound _ _ _) fun a => .val _)
          | _ => exact .none
        | nilsl => exact .comp (det_abound _ _ _) fun b => .comp (det_abound _ _ _) fun a => .val _
        | sref r v o l =>
          dsimp only
          cases h[r]? with
          | none => exact .none
          | some o => cases o with
            | row f v s es => exact .ite (.comp (det_abound _ _ _) fun b => .comp (det_abound _ _ _) fun a => .ite2 (.val _) (.val _))
            | _ => exact .none
        | _ => exact .none
      | _ => exact .none
theorem det_abuild (t : TypeId) (parts : List (Nat × AV)) : Det (fun R K => abuild (R := R) P t parts K) := by
  unfold abuild
  cases P.underlying t with
  | none => exact .none
  | some ty =>
    cases ty with
    | struct fs =>
      dsimp only
      cases fs.toList.mapM (fun f => (P.info? f.type).map fun i => (f.offset, i.size)) with
      | none => exact .none
      | some places => exact .bind _ fun z => .bind _ fun cs => .val _
    | array n e => exact .bind _ fun s => .bind _ fun z => .bind _ fun cs => .val _
    | _ => exact .none
theorem det_abuildSlice (t : TypeId) (len : Nat) (parts : List (Nat × AV)) : Det (fun R K => abuildSlice (R := R) P t h len parts K) := by
  unfold abuildSlice
  try simp only [cnd_eq]
  cases P.underlying t with
  | none => exact .none
  | some ty =>
    cases ty with
    | slice e => exact .bind _ fun s => .bind _ fun z => .ite (.bind _ fun cs => .comp (det_convs _ _ _) fun xs => .val _)
    | _ => exact .none
theorem det_flatK : ∀ (ts : List TypeId) (vs : List AV), Det (fun R K => flatK (R := R) P ts vs K)
  | [], [] => .val _
  | [], _ :: _ => .none
  | _ :: _, [] => .none
  | t :: ts, v :: vs => by
    simp only [flatK, cnd_eq]
    cases isAggT P t with
    | none => exact .none
    | some b =>
      cases b with
      | true => cases v with
        | agg cs => exact .ite (.comp (det_flatK ts vs) fun rs => .val _)
        | _ => exact .none
      | false => exact .ite (.comp (det_flatK ts vs) fun rs => .val _)

theorem det_retV (t : TypeId) (v : AV) : Det (fun R K => retV (R := R) P t v K) := by
  rcases retV_cases P t v with h | h
  · exact .inl ⟨v, h⟩
  · exact .inr h
theorem det_retYs (ts : List TypeId) (ys : List Tree) : Det (fun R K => retYs (R := R) P ts ys K) := by
  rcases retYs_cases P ts ys with h | h
  · exact .inl ⟨ys, h⟩
  · exact .inr h

theorem det_aconvert (src dst : TypeId) (x : AV) : Det (fun R K => aconvert (R := R) P src dst x K) := by
  unfold aconvert
  cases P.underlying src with
  | none => exact .none
  | some a =>
    cases P.underlying dst with
    | none => cases a <;> exact .none
    | some b => cases a <;> cases b <;> first | exact .none | exact .bind _ fun n => .val _

theorem det_alookM (n : Int) : ∀ (m : List (Int × Nat)), Det (fun R K => alookM (R := R) n m K)
  | [] => .val _
  | p :: m => by
    simp only [alookM, cnd_eq]
    exact .ite2 (.val _) (det_alookM n m)
theorem det_alookup (t : TypeId) (m x : AV) : Det (fun R K => alookup (R := R) P t m x K) := by
  unfold alookup
  simp only [cnd_eq]
  split
  · exact .ite (det_alookM _ _)
  · exact .none
theorem det_elems (h : Heap) (z : Nat) (x : AV) : Det (fun R (K : List (List Tree) → Option R) => elems (R := R) h z x K) := by
  unfold elems
  try simp only [cnd_eq]
  cases x with
  | t y =>
    cases y with
    | sl s es => exact .ite (.val _)
    | _ => exact .none
  | nilsl => exact .val _
  | sref i ver off len =>
    dsimp only
    cases h[i]? with
    | none => exact .none
    | some o =>
      cases o with
      | row f ver' s es => exact .ite (.val _)
      | _ => exact .none
  | _ => exact .none

theorem det_srcEs (h : Heap) (z : Nat) (x : AV) : Det (fun R (K : List (List Tree) → Option R) => srcEs (R := R) h z x K) := by
  unfold srcEs
  try simp only [cnd_eq]
  split
  · exact .ite (.val _)
  · exact det_elems _ _ _
theorem det_aconvB (src dst : TypeId) (x : AV) : Det (fun R K => aconvB (R := R) P h src dst x K) := by
  unfold aconvB
  simp only [cnd_eq]
  split
  · split
    · exact .comp (det_elems _ _ _) fun es => .ite (.val _)
    · exact .none
  · exact det_aconvert _ _ _
theorem det_aindexS (t : TypeId) (x ix : AV) : Det (fun R K => aindexS (R := R) P t x ix K) := by
  unfold aindexS
  simp only [cnd_eq]
  split
  · exact .ite (.val _)
  · exact .none
theorem det_qop (env : Env) (op : Op) : Det (fun R K => qop (R := R) P env h op K) := by
  cases op with
  | move x => exact .val _
  | assign x => exact .val _
  | pick c a b =>
    simp only [qop, cnd_eq]
    exact .bind _ fun t => .ite2 (.val _) (.val _)
  | build t parts => exact det_abuild _ _
  | buildSlice t len parts => exact det_abuildSlice _ _ _
  | load t a => exact .comp (det_aload _ _) fun v => det_retV _ _
  | binOp op t x y yt => exact det_abin _ _ _ _
  | unOp op t x => exact det_aun _ _
  | convert src dst x => exact det_aconvB _ _ _
  | makeFunc fn first captured => cases fn <;> first | exact .val _ | exact .none
  | slice t x lo hi mx => exact det_aslice _ _ _ _ _
  | fieldAddr t x f => exact det_afield _ _ _
  | indexAddr t x ix => exact det_aindex _ _ _
  | extract t i =>
    simp only [qop, cnd_eq]
    cases ev env t with
    | tuple vs => cases hv : vs[i]? with
      | none => simp only [hv]; exact .none
      | some v => simp only [hv]; exact .val _
    | _ => exact .none
  | lookup t m x ok => cases ok <;> first | exact det_alookup _ _ _ | exact .none
  | index t x ix => exact det_aindexS _ _ _
  | nilCheck x =>
    simp only [qop, cnd_eq]
    cases ev env x with
    | ptr i off => exact .val _
    | eptr s c o => exact .val _
    | yld i => exact .val _
    | rptr i v k o => exact .val _
    | func fn a b => cases fn <;> first | exact .val _ | exact .none
    | _ => exact .none
  | call c =>
    obtain ⟨callee, args, argTypes⟩ := c
    cases callee with
    | builtin b =>
      cases b <;> first | exact det_amaxL _ _ | exact .none | skip
      simp only [qop, cnd_eq]
      match args.toList, argTypes.toList with
      | [x], [t] => exact det_alen _ _
      | [], _ => exact .none
      | _ :: _ :: _, _ => exact .none
      | [x], [] => exact .none
      | [x], _ :: _ :: _ => exact .none
    | value f => exact .none
    | invoke r m => exact .none
  | _ => exact .none

/-- A quiet step hands on one value, and the heap as it was. -/
theorem det_step (C : Cfg) (rec : Rec) (pc : PRec) (env : Env) (op : Op) :
    (∃ v, ∀ (R : Type) (K : AV → Heap → Option R), stepK C rec pc true env h op K = K v h) ∨ ∀ (R : Type) (K : AV → Heap → Option R), stepK C rec pc true env h op K = none := by
  have lift : ∀ {f : ∀ R : Type, (AV → Option R) → Option R}, Det f → (∃ v, ∀ (R : Type) (K : AV → Heap → Option R), f R (fun v => K v h) = K v h) ∨ ∀ (R : Type) (K : AV → Heap → Option R), f R (fun v => K v h) = none := by
    intro f hf
    rcases hf with ⟨v, hv⟩ | hn
    · exact .inl ⟨v, fun R K => hv R _⟩
    · exact .inr fun R K => hn R _
  have hfc : ∀ (g : FuncId) (avs : List AV), (∃ v, ∀ (R : Type) (K : AV → Heap → Option R), fcall C rec pc true g avs h K = K v h) ∨ ∀ (R : Type) (K : AV → Heap → Option R), fcall C rec pc true g avs h K = none := by
    intro g avs
    unfold fcall
    try simp only [cnd_eq]
    by_cases ho : C.own g = true
    · exact .inr fun R K => by simp [ho]
    have ho' : C.own g = false := by simpa using ho
    by_cases hg : C.heapful g = true
    · exact .inr fun R K => by simp [ho', hg]
    · have hg' : C.heapful g = false := by simpa using hg
      simp only [ho', hg', Bool.false_eq_true, if_false, Bool.true_or, if_true]
      have hd : Det (fun R (K : AV → Option R) => flatK C.P (paramTs C.P g) avs fun ls => convs C.P (!scalarRes C.P g) h (paramTys C.P g) ls fun xs => if g < OWN then ((pc g xs).bind fun ys => retYs C.P (resTys C.P g) ys fun ys =>
          match mkRes C.P g (fun i => .t (ys.getD i default)) with
          | some v => K v
          | none => none) else none) :=
        .comp (det_flatK _ _) fun ls => .comp (det_convs _ _ _) fun xs => .ite (.bind _ fun ys => .comp (det_retYs _ _) fun ys => by
          cases mkRes C.P g (fun i => .t (ys.getD i default)) with
          | none => exact .none
          | some v => exact .val _)
      exact lift hd
  unfold stepK
  try simp only [cnd_eq]
  by_cases hh : isHop op = true
  · exact .inr fun R K => by simp [hh]
  · have hh' : isHop op = false := by simpa using hh
    simp only [hh', Bool.false_eq_true, if_false]
    have hq := lift (det_qop (P := C.P) (h := h) env op)
    cases op with
    | buildSlice t len parts =>
      dsimp only
      by_cases hf : C.fnTy t = true
      · simp only [hf, if_true]; exact .inr fun _ _ => trivial
      · simp only [hf, Bool.false_eq_true, if_false]; exact hq
    | call c =>
      obtain ⟨callee, args, argTypes⟩ := c
      cases callee with
      | value f =>
        dsimp only
        unfold callK
        try simp only [cnd_eq]
        have hif : ∀ (g : FuncId) (avs : List AV), (∃ v, ∀ (R : Type) (K : AV → Heap → Option R), (if enters C.P g = true then fcall C rec pc true g avs h K else none) = K v h) ∨ ∀ (R : Type) (K : AV → Heap → Option R), (if enters C.P g = true then fcall C rec pc true g avs h K else none) = none := by
          intro g avs
          by_cases he : enters C.P g = true
          · simp only [if_pos he]; exact hfc g avs
          · simp only [if_neg he]; exact .inr fun _ _ => trivial
        cases ev env f with
        | func fn a b =>
          cases fn with
          | func g => exact hif g _
          | _ => exact .inr fun _ _ => rfl
        | t x =>
          cases x with
          | const v =>
            cases v with
            | func fn a b =>
              cases fn with
              | func g =>
                obtain ⟨a⟩ := a
                obtain ⟨b⟩ := b
                cases a with
                | nil => cases b with
                  | nil => exact hif g _
                  | cons x xs => exact .inr fun _ _ => rfl
                | cons x xs => exact .inr fun _ _ => rfl
              | _ => exact .inr fun _ _ => rfl
            | _ => exact .inr fun _ _ => rfl
          | _ => exact .inr fun _ _ => rfl
        | yld i => exact .inr fun _ _ => by simp
        | _ => exact .inr fun _ _ => rfl
      | builtin b => exact hq
      | invoke a b => exact hq
    | _ => exact hq

/-! ### a quiet step as a function on the slots -/
noncomputable def qval (C : Cfg) (rec : Rec) (pc : PRec) (h : Heap) (env : Env) (op : Op) : Option AV := stepK C rec pc true env h op fun v _ => some v

theorem step_eq {R : Type} (C : Cfg) (rec : Rec) (pc : PRec) (env : Env) (op : Op) (K : AV → Heap → Option R) : stepK C rec pc true env h op K = (qval C rec pc h env op).bind fun v => K v h := by
  unfold qval
  rcases det_step (h := h) C rec pc env op with ⟨v, hv⟩ | hn
  · rw [hv, hv]; rfl
  · rw [hn, hn]; rfl

def gval (ops : Array Oper) (o : Oper) (env : Env) : Option Bool :=
  match o.guard with
  | none => some true
  | some (j, want) =>
    match (ops[j]?).bind (·.dst) with
    | some d => match env d with
      | .t (.bool b) => some (b == want)
      | .tuple [] => some false
      | _ => none
    | none => none

theorem guard_eq {R : Type} (ops : Array Oper) (o : Oper) (env : Env) (K1 K0 : Env → Option R) : guardK ops o env K1 K0 = (gval ops o env).bind fun b => if b then K1 env else K0 env := by
  unfold guardK gval
  try simp only [cnd_eq]
  cases hg : o.guard with
  | none => rfl
  | some p =>
    obtain ⟨j, want⟩ := p
    dsimp only
    cases hd : (ops[j]?).bind (·.dst) with
    | none => rfl
    | some d =>
      dsimp only
      cases hb : env d with
      | t x =>
        cases x with
        | bool b => cases b <;> cases want <;> simp [put_same hb]
        | _ => rfl
      | tuple vs => cases vs <;> rfl
      | _ => rfl

noncomputable def qstep (C : Cfg) (rec : Rec) (pc : PRec) (N : Nat) (ops : Array Oper) (h : Heap) (o : Oper) (env : Env) : Option Env :=
  if dstOk N o = true then (gval ops o env).bind fun b => if b then (qval C rec pc h env o.op).map (env.put o.dst) else some (env.put o.dst (.tuple [])) else none

theorem aops_quiet {R : Type} (C : Cfg) (rec : Rec) (pc : PRec) (N : Nat) (ops : Array Oper) : ∀ (os : List Oper) (env : Env) (K : Env → Heap → Option R), aopsK C rec pc N true ops os env h K = (os.foldlM (fun env o => qstep C rec pc N ops h o env) env).bind fun env' => K env' h
  | [], env, K => rfl
  | o :: os, env, K => by
    simp only [aopsK, List.foldlM_cons, qstep, cnd_eq]
    by_cases hd : dstOk N o = true
    · rw [if_pos hd, if_pos hd, guard_eq]
      cases gval ops o env with
      | none => rfl
      | some b =>
        cases b with
        | true =>
          simp only [Option.bind_some, if_true, step_eq]
          cases qval C rec pc h env o.op with
          | none => rfl
          | some v => simp only [Option.bind_some, Option.map_some, aops_quiet C rec pc N ops os]; rfl
        | false => simp only [Option.bind_some, Bool.false_eq_true, if_false, aops_quiet C rec pc N ops os]; rfl
    · rw [if_neg hd, if_neg hd]; rfl

/-! ### quiet steps that do not touch commute -/
theorem qval_congr (C : Cfg) (rec : Rec) (pc : PRec) {env env' : Env} (op : Op) (hE : ∀ x ∈ op.operands, ev env x = ev env' x) : qval C rec pc h env op = qval C rec pc h env' op := by
  have hmap : ∀ (xs : Array Operand), (∀ x ∈ xs, ev env x = ev env' x) → xs.toList.map (ev env) = xs.toList.map (ev env') := fun xs hx =>
    List.map_congr_left fun x hm => hx x (by simpa using hm)
  have hparts : ∀ (ps : Array (Nat × Operand)), (∀ x ∈ (ps.toList.map (·.2)).toArray, ev env x = ev env' x) → ps.toList.map (fun p => (p.1, ev env p.2)) = ps.toList.map (fun p => (p.1, ev env' p.2)) := fun ps hx =>
    List.map_congr_left fun p hm => by rw [hx p.2 (by simp; exact ⟨p.1, by simpa using hm⟩)]
  have hopt : ∀ (x : Option Operand), (∀ y ∈ x.toArray, ev env y = ev env' y) → optAV env x = optAV env' x := fun x hx => by
    cases x with
    | none => rfl
    | some y => simp only [optAV]; rw [hx y (by simp)]
  unfold qval
  cases op with
  | move x => have h1 := hE x (by simp [Op.operands]); simp only [stepK, isHop, Bool.false_eq_true, if_false, qop, h1, cnd_eq]
  | assign x => have h1 := hE x (by simp [Op.operands]); simp only [stepK, isHop, Bool.false_eq_true, if_false, qop, h1, cnd_eq]
  | pick c a b =>
    have h1 := hE c (by simp [Op.operands]); have h2 := hE a (by simp [Op.operands]); have h3 := hE b (by simp [Op.operands])
    simp only [stepK, isHop, Bool.false_eq_true, if_false, qop, h1, h2, h3, cnd_eq]
  | alloc t => simp [stepK, isHop, cnd_eq]
  | box t x => simp [stepK, isHop, cnd_eq]
  | store t a x => simp [stepK, isHop, cnd_eq]
  | build t ps => have h1 := hparts ps hE; simp only [stepK, isHop, Bool.false_eq_true, if_false, qop, h1, cnd_eq]
  | buildSlice t l ps => have h1 := hparts ps hE; simp only [stepK, isHop, Bool.false_eq_true, if_false, qop, if_true, h1, cnd_eq]
  | load t x => have h1 := hE x (by simp [Op.operands]); simp only [stepK, isHop, Bool.false_eq_true, if_false, qop, h1, cnd_eq]
  | nilCheck x => have h1 := hE x (by simp [Op.operands]); simp only [stepK, isHop, Bool.false_eq_true, if_false, qop, h1, cnd_eq]
  | binOp op t x y yt =>
    have h1 := hE x (by simp [Op.operands]); have h2 := hE y (by simp [Op.operands])
    by_cases hi : isHop (.binOp op t x y yt) = true
    · simp only [stepK, hi, if_true]
    · simp only [stepK, hi, Bool.false_eq_true, if_false, qop, h1, h2, cnd_eq]
  | unOp op t x => have h1 := hE x (by simp [Op.operands]); simp only [stepK, isHop, Bool.false_eq_true, if_false, qop, h1, cnd_eq]
  | convert src dst x => have h1 := hE x (by simp [Op.operands]); simp only [stepK, isHop, Bool.false_eq_true, if_false, qop, h1, cnd_eq]
  | makeSlice t n c => simp [stepK, isHop, cnd_eq]
  | makeFunc fn first captured =>
    have h1 := hmap first fun x hx => hE x (by simp [Op.operands, hx])
    have h2 := hmap captured fun x hx => hE x (by simp [Op.operands, hx])
    simp only [stepK, isHop, Bool.false_eq_true, if_false, qop, h1, h2, cnd_eq]
  | slice t x lo hi mx =>
    have h1 := hE x (by simp [Op.operands])
    have h2 := hopt lo fun y hy => hE y (by simp [Op.operands] at hy ⊢; simp [hy])
    have h3 := hopt hi fun y hy => hE y (by simp [Op.operands] at hy ⊢; simp [hy])
    have h4 := hopt mx fun y hy => hE y (by simp [Op.operands] at hy ⊢; simp [hy])
    simp only [stepK, isHop, Bool.false_eq_true, if_false, qop, h1, h2, h3, h4, cnd_eq]
  | fieldAddr t x f => have h1 := hE x (by simp [Op.operands]); simp only [stepK, isHop, Bool.false_eq_true, if_false, qop, h1, cnd_eq]
  | indexAddr t x y =>
    have h1 := hE x (by simp [Op.operands]); have h2 := hE y (by simp [Op.operands])
    simp only [stepK, isHop, Bool.false_eq_true, if_false, qop, h1, h2, cnd_eq]
  | lookup t m x ok => have h1 := hE m (by simp [Op.operands]); have h2 := hE x (by simp [Op.operands]); cases ok <;> simp only [stepK, isHop, Bool.false_eq_true, if_false, qop, h1, h2, cnd_eq]
  | index t x y =>
    have h1 := hE x (by simp [Op.operands]); have h2 := hE y (by simp [Op.operands])
    simp only [stepK, isHop, Bool.false_eq_true, if_false, qop, h1, h2, cnd_eq]
  | extract x i => have h1 := hE x (by simp [Op.operands]); simp only [stepK, isHop, Bool.false_eq_true, if_false, qop, h1, cnd_eq]
  | call c =>
    obtain ⟨callee, args, argTypes⟩ := c
    cases callee with
    | value f =>
      have h1 := hE f (by simp [Op.operands, Call.operands])
      have h2 := hmap args fun x hx => hE x (by simp [Op.operands, Call.operands, hx])
      simp only [stepK, isHop, Bool.false_eq_true, if_false, h1, h2, cnd_eq]
    | builtin b =>
      have h2 : ∀ x ∈ args.toList, ev env x = ev env' x := fun x hx => hE x (by simp [Op.operands, Call.operands]; simpa using hx)
      have h3 := hmap args fun x hx => h2 x (by simpa using hx)
      cases b <;> first | (simp [stepK, isHop, cnd_eq]; done) | (simp only [stepK, isHop, Bool.false_eq_true, if_false, qop, h3, cnd_eq]; done) | (simp only [stepK, isHop, Bool.false_eq_true, if_false, qop, cnd_eq]; done) | skip
      simp only [stepK, isHop, Bool.false_eq_true, if_false, qop, cnd_eq]
      match hl : args.toList, argTypes.toList with
      | [x], [t] => simp only [h2 x (by rw [hl]; simp)]
      | [], _ => rfl
      | _ :: _ :: _, _ => rfl
      | [x], [] => rfl
      | [x], _ :: _ :: _ => rfl
    | invoke r m => simp only [stepK, isHop, Bool.false_eq_true, if_false, qop, cnd_eq]
  | _ => simp only [stepK, isHop, Bool.false_eq_true, if_false, qop, cnd_eq]

theorem gval_congr (ops : Array Oper) (o : Oper) {env env' : Env} (hE : ∀ t ∈ o.looksAt ops, env t = env' t) : gval ops o env = gval ops o env' := by
  unfold gval
  cases hg : o.guard with
  | none => rfl
  | some p =>
    obtain ⟨j, want⟩ := p
    dsimp only
    cases hd : (ops[j]?).bind (·.dst) with
    | none => rfl
    | some d =>
      dsimp only
      rw [hE d (by simp [Oper.looksAt, hg, hd])]

theorem looks_ev (ops : Array Oper) (o : Oper) {env env' : Env} (hE : ∀ t ∈ o.looksAt ops, env t = env' t) : ∀ x ∈ o.op.operands, ev env x = ev env' x := by
  intro x hx
  cases x with
  | tmp t => exact hE t (by
      simp only [Oper.looksAt, List.mem_append, List.mem_filterMap]
      exact .inl ⟨.tmp t, by simpa using hx, rfl⟩)
  | _ => rfl

theorem put_other {env : Env} {o : Oper} {v : AV} {t : Tmp} (ht : ∀ d, o.dst = some d → d ≠ t) : (env.put o.dst v) t = env t := by
  cases hd : o.dst with
  | none => rfl
  | some d => simp only [Env.put]; rw [if_neg fun e => ht d hd e.symm]

theorem put_comm {env : Env} {x y : Oper} {v u : AV} (hxy : ∀ d, x.dst = some d → y.dst ≠ some d) : (env.put x.dst v).put y.dst u = (env.put y.dst u).put x.dst v := by
  cases hx : x.dst with
  | none => cases y.dst <;> rfl
  | some d =>
    cases hy : y.dst with
    | none => rfl
    | some e =>
      funext i
      simp only [Env.put]
      have hne : d ≠ e := fun h => hxy d hx (by rw [hy, h])
      by_cases h1 : i = e
      · rw [if_pos h1]
        by_cases h2 : i = d
        · exact (hne (h2.symm.trans h1)).elim
        · rw [if_neg h2, if_pos h1]
      · rw [if_neg h1]
        by_cases h2 : i = d
        · rw [if_pos h2, if_pos h2]
        · rw [if_neg h2, if_neg h2, if_neg h1]

/-- What a quiet step puts into its slot. -/
noncomputable def qput (C : Cfg) (rec : Rec) (pc : PRec) (N : Nat) (ops : Array Oper) (h : Heap) (o : Oper) (env : Env) : Option AV :=
  if dstOk N o = true then (gval ops o env).bind fun b => if b then qval C rec pc h env o.op else some (.tuple []) else none
theorem qstep_eq (C : Cfg) (rec : Rec) (pc : PRec) (N : Nat) (ops : Array Oper) (o : Oper) (env : Env) : qstep C rec pc N ops h o env = (qput C rec pc N ops h o env).map (env.put o.dst) := by
  unfold qstep qput
  split
  · cases gval ops o env with
    | none => rfl
    | some b => cases b <;> rfl
  · rfl
theorem qput_congr (C : Cfg) (rec : Rec) (pc : PRec) (N : Nat) (ops : Array Oper) (o : Oper) {env env' : Env} (hE : ∀ t ∈ o.looksAt ops, env t = env' t) : qput C rec pc N ops h o env = qput C rec pc N ops h o env' := by
  unfold qput
  rw [gval_congr ops o hE, qval_congr C rec pc o.op (looks_ev ops o hE)]

theorem qstep_comm (C : Cfg) (rec : Rec) (pc : PRec) (N : Nat) (ops : Array Oper) {x y : Oper} (hxy : x.apart ops y = true) (env : Env) :
    ((qstep C rec pc N ops h x env).bind fun e => qstep C rec pc N ops h y e) = (qstep C rec pc N ops h y env).bind fun e => qstep C rec pc N ops h x e := by
  obtain ⟨h1, h2, h3⟩ := Oper.apart_spec hxy
  have hy : ∀ v, qput C rec pc N ops h y (env.put x.dst v) = qput C rec pc N ops h y env := fun v => qput_congr C rec pc N ops y fun t ht => put_other fun d hd e => h1 d hd (e ▸ ht)
  have hx : ∀ v, qput C rec pc N ops h x (env.put y.dst v) = qput C rec pc N ops h x env := fun v => qput_congr C rec pc N ops x fun t ht => put_other fun d hd e => h3 d hd (e ▸ ht)
  simp only [qstep_eq]
  cases hqx : qput C rec pc N ops h x env with
  | none =>
    cases hqy : qput C rec pc N ops h y env with
    | none => rfl
    | some u => simp only [Option.map_none, Option.bind_none, Option.map_some, Option.bind_some, hx, hqx]
  | some v =>
    cases hqy : qput C rec pc N ops h y env with
    | none => simp only [Option.map_none, Option.bind_none, Option.map_some, Option.bind_some, hy, hqy]
    | some u =>
      simp only [Option.map_some, Option.bind_some, hx, hy, hqx, hqy]
      rw [put_comm h2]

/-! ### loud steps have one outcome -/
theorem det_rowify : ∀ (ts : List TypeId) (vs : List AV) (h : Heap), Det (fun R (K : List AV × Heap → Option R) => rowify (R := R) P ts vs h fun vs' h' => K (vs', h'))
  | ts, [], h => .val ([], h)
  | ts, v :: vs, h => by
    cases v with
    | nilsl =>
      have := det_rowify ts.tail vs (h ++ [.row false 0 ((elemSz P (ts.headD 0)).getD 0) []])
      rcases this with ⟨p, hp⟩ | hn
      · exact .inl ⟨(.sref h.length 0 0 0 :: p.1, p.2), fun R K => hp R fun q => K (.sref h.length 0 0 0 :: q.1, q.2)⟩
      · exact .inr fun R K => hn R fun q => K (.sref h.length 0 0 0 :: q.1, q.2)
    | _ =>
      have := det_rowify ts.tail vs h
      rcases this with ⟨p, hp⟩ | hn
      · exact .inl ⟨(_ :: p.1, p.2), fun R K => hp R fun q => K (_ :: q.1, q.2)⟩
      · exact .inr fun R K => hn R fun q => K (_ :: q.1, q.2)

theorem det_allocBox (t : TypeId) (cs : List AV) (h : Heap) : Det (fun R (K : AV × Heap → Option R) => allocBox (R := R) P t cs h fun v h' => K (v, h')) := by
  unfold allocBox
  rcases det_rowify (P := P) (leafTys P 16 t) cs h with ⟨p, hp⟩ | hn
  · exact .inl ⟨(.ptr p.2.length 0, p.2 ++ [.box p.1]), fun R K => hp R fun q => K (.ptr q.2.length 0, q.2 ++ [.box q.1])⟩
  · exact .inr fun R K => hn R fun q => K (.ptr q.2.length 0, q.2 ++ [.box q.1])

theorem det_astore (t : TypeId) (h : Heap) (a v : AV) : Det (fun R (K : Heap → Option R) => astore (R := R) P t h a v K) := by
  unfold astore
  try simp only [cnd_eq]
  cases v.cells with
  | none => exact .none
  | some vs =>
    cases szOf P t with
    | none => exact .none
    | some n =>
      refine .ite ?_
      cases a with
      | ptr i off =>
        dsimp only
        cases h[i]? with
        | none => exact .none
        | some o =>
          cases o with
          | box cs =>
            refine .ite ?_
            rcases det_rowify (P := P) (leafTys P 16 t) vs h with ⟨p, hp⟩ | hn
            · exact .inl ⟨_, fun R K => hp R fun q => K (q.2.set i (.box (setAt cs off q.1)))⟩
            · exact .inr fun R K => hn R fun q => K (q.2.set i (.box (setAt cs off q.1)))
          | row f ver s es => exact .none
          | loop l => exact .none
      | rptr i ver k off =>
        dsimp only
        cases h[i]? with
        | none => exact .none
        | some o =>
          cases o with
          | box cs => exact .none
          | loop l => exact .none
          | row f ver' s es =>
            cases f with
            | true => exact .none
            | false => exact .ite (.bind _ fun e => .comp (det_convs _ _ _) fun xs => .val _)
      | _ => exact .none

theorem det_aappend (t : TypeId) (h : Heap) (s x : AV) : Det (fun R (K : AV × Heap → Option R) => aappend (R := R) P t h s x fun v h' => K (v, h')) := by
  unfold aappend
  try simp only [cnd_eq]
  refine .bind _ fun z => .comp (det_elems h z x) fun new => ?_
  cases s with
  | nilsl => exact .ite (.val (_, _))
  | sref i ver off len =>
    dsimp only
    cases h[i]? with
    | none => exact .none
    | some o =>
      cases o with
      | row f ver' sz es =>
        cases f with
        | true => exact .none
        | false => exact .ite2 (.ite (.val (_, _))) (.ite (.val (_, _)))
      | _ => exact .none
  | _ => exact .none

theorem det_aappendIn (t : TypeId) (h : Heap) (s x : AV) : Det (fun R (K : AV × Heap → Option R) => aappendIn (R := R) P t h s x fun v h' => K (v, h')) := by
  unfold aappendIn
  try simp only [cnd_eq]
  refine .bind _ fun z => .comp (det_elems h z x) fun new => ?_
  cases s with
  | sref i ver off len =>
    dsimp only
    cases h[i]? with
    | none => exact .none
    | some o =>
      cases o with
      | row f ver' sz es =>
        cases f with
        | true => exact .none
        | false => exact .ite (.val (_, _))
      | _ => exact .none
  | _ => exact .none
theorem det_zeroT (h : Heap) (e : TypeId) : Det (fun R (K : List Tree → Option R) => zeroT (R := R) P h e K) := by
  unfold zeroT
  try simp only [cnd_eq]
  cases zeroCells? P e with
  | none => exact .none
  | some z =>
    cases szOf P e with
    | none => exact .none
    | some n => exact .ite (det_convs _ _ _)
theorem det_aclear (t : TypeId) (h : Heap) (x : AV) : Det (fun R (K : Heap → Option R) => aclear (R := R) P t h x K) := by
  unfold aclear
  try simp only [cnd_eq]
  cases P.underlying t with
  | none => exact .none
  | some ty =>
    cases ty with
    | slice e =>
      cases x with
      | t y => cases y with
        | sl z es => exact .ite (.val _)
        | _ => exact .none
      | nilsl => exact .val _
      | sref i ver off len =>
        dsimp only
        refine .comp (det_zeroT h e) fun zs => ?_
        cases h[i]? with
        | none => exact .none
        | some o =>
          cases o with
          | row f ver' sz es =>
            cases f with
            | true => exact .none
            | false => exact .ite (.val _)
          | _ => exact .none
      | _ => exact .none
    | _ => exact .none
theorem det_acopy (t : TypeId) (h : Heap) (d x : AV) : Det (fun R (K : AV × Heap → Option R) => acopy (R := R) P t h d x fun v h' => K (v, h')) := by
  unfold acopy
  try simp only [cnd_eq]
  refine .bind _ fun z => .comp (det_srcEs h z x) fun new => ?_
  cases d with
  | sref i ver off len =>
    dsimp only
    cases h[i]? with
    | none => exact .none
    | some o =>
      cases o with
      | row f ver' sz es =>
        cases f with
        | true => exact .none
        | false => exact .ite (.val (_, _))
      | _ => exact .none
  | _ => exact .none
theorem det_amake (t : TypeId) (h : Heap) (n c : AV) : Det (fun R (K : AV × Heap → Option R) => amake (R := R) P t h n c fun v h' => K (v, h')) := by
  unfold amake
  try simp only [cnd_eq]
  refine .bind _ fun z => ?_
  cases P.underlying t with
  | none => exact .none
  | some ty =>
    cases ty with
    | slice e => exact .bind _ fun a => .bind _ fun b => .comp (det_zeroT h e) fun zs => .ite (.val (_, _))
    | _ => exact .none

theorem det_boxImm (t : TypeId) (v : AV) (h : Heap) : Det (fun R (K : AV × Heap → Option R) => boxImm (R := R) P t v h fun v => K (v, h)) := by
  unfold boxImm
  try simp only [cnd_eq]
  cases v.cells with
  | none => exact .none
  | some cs =>
    cases szOf P t with
    | none => exact .none
    | some n => exact .ite (.comp (det_convs _ _ _) fun xs => .val (_, _))

theorem det_allocImm (t : TypeId) (h : Heap) : Det (fun R (K : AV × Heap → Option R) => allocImm (R := R) P t h fun v h' => K (v, h')) := by
  unfold allocImm
  try simp only [cnd_eq]
  cases zeroCells? P t with
  | none => exact .none
  | some z =>
    cases szOf P t with
    | none => exact .none
    | some n => exact .ite (.comp (det_convs _ _ _) fun xs => .val (_, _))

theorem det_abuildBsl {P : Program} {t : TypeId} {h : Heap} (len : Nat) (parts : List (Nat × AV)) : Det (fun R (K : AV × Heap → Option R) => abuildBsl (R := R) P t h len parts fun v h' => K (v, h')) := by
  unfold abuildBsl
  try simp only [cnd_eq]
  cases P.underlying t with
  | none => exact .none
  | some u => cases u with
    | slice e => exact .bind _ fun s => .bind _ fun z => .ite (.bind _ fun cs => .val (_, _))
    | _ => exact .none
theorem det_loud (C : Cfg) (rec : Rec) (pc : PRec) (env : Env) (op : Op) (hl : loudOp C op = true) : Det (fun R (K : AV × Heap → Option R) => stepK (R := R) C rec pc false env h op fun v h' => K (v, h')) := by
  by_cases hh : isHop op = true
  case neg =>
    have hw : (∃ g args argTypes, op = .call { callee := .value (.func g), args, argTypes }) ∨ ∃ t len parts, op = .buildSlice t len parts := by
      unfold loudOp at hl
      split at hl <;> first | (exact absurd rfl hh) | (exact .inl ⟨_, _, _, rfl⟩) | (exact .inr ⟨_, _, _, rfl⟩) | cases hl
    rcases hw with ⟨g, args, argTypes, rfl⟩ | ⟨t, len, parts, rfl⟩
    case inr =>
      have hf : C.fnTy t = true := hl
      show Det (fun R (K : AV × Heap → Option R) => stepK (R := R) C rec pc false env h (.buildSlice t len parts) fun v h' => K (v, h'))
      simp only [stepK, isHop, Bool.false_eq_true, if_false, hf, if_true]
      exact det_abuildBsl _ _
    have hown : C.own g = true := hl
    have hh' : isHop (.call { callee := .value (.func g), args, argTypes }) = false := by simpa using hh
    unfold stepK
    simp only [hh', Bool.false_eq_true, if_false, ev, callK, cnd_eq]
    refine .ite ?_
    unfold fcall
    simp only [hown, if_true, Bool.false_eq_true, if_false, cnd_eq]
    refine .comp (det_flatK _ _) fun ls => .comp (det_convs _ _ _) fun xs => .bind _ fun ys => ?_
    split
    · refine .bind _ fun z => .ite ?_
      unfold putOwn
      split
      · split
        · exact .val (_, _)
        · exact .none
      · exact .val (_, _)
    · exact .none
  unfold stepK
  simp only [hh, if_true, Bool.false_eq_true, if_false]
  cases op with
  | alloc t =>
    simp only [immOf]
    split
    · exact (by simpa using det_boxImm (P := C.P) _ _ _)
    · rename_i t' himm
      exact det_allocImm _ _
    · rename_i t' a x himm
      split at himm <;> cases himm
    · simp only [hop]
      cases zeroCells? C.P t with
      | none => exact .none
      | some z => exact det_allocBox _ _ _
  | box t x =>
    simp only [immOf]
    split
    · exact det_boxImm _ _ _
    · rename_i t' himm
      split at himm <;> cases himm
    · rename_i t' a x' himm
      split at himm <;> cases himm
    · simp only [hop]
      cases (ev env x).cells with
      | none => exact .none
      | some cs => exact det_allocBox _ _ _
  | store t a x =>
    simp only [immOf]
    split
    · rename_i himm
      split at himm <;> cases himm
    · rename_i himm
      split at himm <;> cases himm
    · rename_i t' a' x' himm
      exact .comp (det_astore _ _ _ _) fun h' => .val (_, _)
    · simp only [hop]
      exact .comp (det_astore _ _ _ _) fun h' => .val (_, _)
  | call c =>
    obtain ⟨callee, args, argTypes⟩ := c
    cases callee with
    | builtin b =>
      cases b <;> first | (simp [loudOp] at hl; done) | skip
      · simp only [immOf, hop, cnd_eq]
        split
        · rename_i s x t t' _ _
          refine .ite ?_
          by_cases hsr : sameRow (ev env s) (ev env x) = true
          · simp only [hsr, if_true]; exact det_aappendIn _ _ _ _
          · simp only [hsr, Bool.false_eq_true, if_false]; exact det_aappend _ _ _ _
        · exact .none
      · simp only [immOf, hop, cnd_eq]
        split
        · exact .comp (det_aclear _ _ _) fun h' => .val (_, _)
        · exact .none
      · simp only [immOf, hop, cnd_eq]
        split
        · exact det_acopy _ _ _ _
        · exact .none
    | _ => simp [isHop] at hh
  | makeSlice t n c => simp only [immOf, hop]; exact det_amake _ _ _ _
  | _ => first | (simp [loudOp] at hl; done) | (simp [isHop] at hh; done)

/-! ### free steps look at no object that is turned -/
/-- What a value leads to is the same in two heaps. -/
def HF (h h' : Heap) (v : AV) : Prop := (∃ d, hfree d v = true) ∨ ∃ i, objOf v = some i ∧ h[i]? = h'[i]?
theorem HF.cells {h h' : Heap} {v : AV} {cs : List AV} (hv : HF h h' v) (hc : v.cells = some cs) : ∀ x ∈ cs, HF h h' x := by
  rcases hv with ⟨d, hd⟩ | ⟨i, hi, he⟩
  · cases d with
    | zero => cases hd
    | succ d =>
      cases v <;> simp only [AV.cells, Option.some.injEq, reduceCtorEq] at hc <;> first | (cases hc; done) | skip
      all_goals first
        | (subst hc; intro x hx; simp at hx; subst hx; exact .inl ⟨d + 1, hd⟩)
        | (subst hc; intro x hx; simp only [hfree] at hd; exact .inl ⟨d, List.all_eq_true.1 hd x hx⟩)
  · cases v <;> simp only [objOf, reduceCtorEq] at hi <;> simp only [AV.cells, Option.some.injEq] at hc <;> (subst hc; intro x hx; simp at hx; subst hx; exact .inr ⟨i, by simpa [objOf] using hi, he⟩)

theorem conv_free {R : Type} {fz : Bool} {h h' : Heap} {ty : TypeId} {v : AV} (hv : HF h h' v) (K : Tree → Option R) : conv P fz h ty v K = conv P fz h' ty v K := by
  cases v with
  | sref i ver off len =>
    rcases hv with ⟨d, hd⟩ | ⟨j, hj, he⟩
    · cases d with
      | zero => cases hd
      | succ d => simp [hfree] at hd
    · simp only [objOf, Option.some.injEq] at hj
      subst hj
      simp only [conv, he]
  | func fn f c => cases f <;> cases c <;> rfl
  | _ => rfl
theorem convs_free {R : Type} {fz : Bool} {h h' : Heap} : ∀ (ts : List TypeId) (vs : List AV), (∀ v ∈ vs, HF h h' v) → ∀ (K : List Tree → Option R), convs P fz h ts vs K = convs P fz h' ts vs K
  | [], [], _, K => rfl
  | [], _ :: _, _, K => rfl
  | _ :: _, [], _, K => rfl
  | t :: ts, v :: vs, hv, K => by
    simp only [convs]
    rw [conv_free (h' := h') (hv v (by simp))]
    congr 1
    funext x
    exact convs_free ts vs (fun u hu => hv u (by simp [hu])) _
theorem flatK_free {R : Type} {h h' : Heap} : ∀ (ts : List TypeId) (vs : List AV), (∀ v ∈ vs, HF h h' v) → ∀ (K K' : List AV → Option R), (∀ ls, (∀ v ∈ ls, HF h h' v) → K ls = K' ls) → flatK P ts vs K = flatK P ts vs K'
  | [], [], _, K, K', hk => hk [] (by simp)
  | [], _ :: _, _, K, K', hk => rfl
  | _ :: _, [], _, K, K', hk => rfl
  | t :: ts, v :: vs, hv, K, K', hk => by
    have hv1 := hv v (by simp)
    have hvs : ∀ u ∈ vs, HF h h' u := fun u hu => hv u (by simp [hu])
    simp only [flatK, cnd_eq]
    cases isAggT P t with
    | none => rfl
    | some b =>
      cases b with
      | true =>
        cases v with
        | agg cs =>
          dsimp only
          split
          · refine flatK_free ts vs hvs _ _ fun ls hl => hk _ fun u hu => ?_
            rcases List.mem_append.1 hu with hu | hu
            · exact hv1.cells (cs := cs) rfl u hu
            · exact hl u hu
          · rfl
        | _ => rfl
      | false =>
        dsimp only
        split
        · refine flatK_free ts vs hvs _ _ fun ls hl => hk _ fun u hu => ?_
          rcases List.mem_cons.1 hu with rfl | hu
          · exact hv1
          · exact hl u hu
        · rfl
theorem fill_free {h h' : Heap} {place : Nat → Option (Nat × Nat)} : ∀ (ps : List (Nat × AV)) (cs cs' : List AV), (∀ p ∈ ps, HF h h' p.2) → (∀ v ∈ cs, HF h h' v) → fillCells place cs ps = some cs' → ∀ v ∈ cs', HF h h' v
  | [], cs, cs', _, hc, h => by cases h; exact hc
  | (i, v) :: ps, cs, cs', hp, hc, h => by
    simp only [fillCells] at h
    split at h
    · rename_i off size vs hpl hvc
      split at h
      · refine fill_free ps _ cs' (fun p hpp => hp p (by simp [hpp])) (fun u hu => ?_) h
        simp only [setAt, List.mem_append] at hu
        rcases hu with hu | hu | hu
        · exact hc u (List.mem_of_mem_take hu)
        · exact (hp (i, v) (by simp)).cells hvc u hu
        · exact hc u (List.mem_of_mem_drop hu)
      · cases h
    · cases h

theorem leafConst_free (d : Nat) (v : Value) : hfree (d + 2) (leafConst v) = true := by
  unfold leafConst
  split <;> rfl
theorem ofConst_free (v : Value) : hfree 4 (ofConst v) = true := by
  unfold ofConst
  split
  · simp only [hfree]
    exact List.all_eq_true.2 fun x hx => by
      obtain ⟨u, _, rfl⟩ := List.mem_map.1 hx
      exact leafConst_free 1 u
  · exact leafConst_free 2 _
theorem zero_free {h h' : Heap} {e : TypeId} {z : List AV} (hz : zeroCells? P e = some z) : ∀ v ∈ z, HF h h' v := by
  unfold zeroCells? at hz
  split at hz
  · exact HF.cells (.inl ⟨4, ofConst_free _⟩) hz
  · cases hz

theorem HF.obj {h h' : Heap} {v : AV} (hv : HF h h' v) {i : Nat} (hi : objOf v = some i) : h[i]? = h'[i]? := by
  rcases hv with ⟨d, hd⟩ | ⟨j, hj, he⟩
  · cases d with
    | zero => cases hd
    | succ d => cases v <;> simp only [objOf, reduceCtorEq] at hi <;> simp [hfree] at hd
  · rw [hi] at hj
    cases hj
    exact he

theorem qop_free {R : Type} {h h' : Heap} {env : Env} {op : Op} (hf : ∀ x ∈ op.operands, HF h h' (ev env x)) (K : AV → Option R) : qop P env h op K = qop P env h' op K := by
  cases op with
  | load t x =>
    have h1 := hf x (by simp [Op.operands])
    simp only [qop, aload]
    generalize ev env x = v at h1
    cases v <;> first | rfl | (simp only [h1.obj rfl])
  | fieldAddr t x f =>
    have h1 := hf x (by simp [Op.operands])
    simp only [qop, afield]
    generalize ev env x = v at h1
    cases v <;> first | rfl | (simp only [h1.obj rfl])
  | indexAddr t x y =>
    have h1 := hf x (by simp [Op.operands])
    simp only [qop, aindex]
    generalize ev env x = v at h1
    cases v with
    | sref i ver off len => simp only [h1.obj rfl]
    | t y => cases y <;> rfl
    | _ => rfl
  | convert src dst x =>
    have h1 := hf x (by simp [Op.operands])
    simp only [qop, aconvB]
    generalize ev env x = v at h1
    split
    · split
      · unfold elems
        cases v with
        | sref i ver off len => simp only [h1.obj rfl]
        | t y => cases y <;> rfl
        | _ => rfl
      · rfl
    · rfl
  | slice t x lo hi mx =>
    have h1 := hf x (by simp [Op.operands])
    simp only [qop, aslice]
    generalize ev env x = v at h1
    generalize optAV env hi = oh
    generalize optAV env mx = om
    cases v with
    | sref i ver off len => cases oh <;> simp only [h1.obj rfl]
    | t y => cases y <;> cases oh <;> rfl
    | _ => cases oh <;> rfl
  | buildSlice t len ps =>
    simp only [qop, abuildSlice, cnd_eq]
    split
    · rename_i e hu
      congr 1
      funext s
      cases hzc : zeroCells? P e with
      | none => rfl
      | some z =>
        simp only [Option.bind_some]
        split
        · cases hfc : fillCells (fun i => some (i * s, s)) (List.replicate len z).flatten (ps.toList.map fun p => (p.1, ev env p.2)) with
          | none => rfl
          | some cs =>
            simp only [Option.bind_some]
            refine convs_free _ _ (fill_free _ _ _ (fun p hp => ?_) (fun v hv => ?_) hfc) _
            · obtain ⟨q, hq, rfl⟩ := List.mem_map.1 hp
              exact hf q.2 (by simp [Op.operands]; exact ⟨q.1, by simpa using hq⟩)
            · obtain ⟨l, hl, hv⟩ := List.mem_flatten.1 hv
              rw [(List.mem_replicate.1 hl).2] at hv
              exact zero_free hzc v hv
        · rfl
    · rfl
  | call c =>
    obtain ⟨callee, args, argTypes⟩ := c
    cases callee with
    | builtin b =>
      cases b <;> first | rfl | skip
      simp only [qop]
      split
      · rename_i x t hx _
        have h1 := hf x (by
          have : x ∈ args.toList := by rw [hx]; simp
          simp [Op.operands, Call.operands]
          simpa using this)
        simp only [alen]
        generalize ev env x = v at h1
        cases v with
        | sref i ver off len => simp only [h1.obj rfl]
        | t y => cases y <;> rfl
        | _ => rfl
      · rfl
    | _ => rfl
  | lookup t m x ok => cases ok <;> rfl
  | _ => rfl

theorem blind_free {C : Cfg} {rec : Rec} {pc : PRec} {h h' : Heap} {env : Env} {op : Op} (hb : blindOp op = true) : qval C rec pc h env op = qval C rec pc h' env op := by
  unfold qval stepK
  by_cases hh : isHop op = true
  · simp [hh]
  · have hh' : isHop op = false := by simpa using hh
    simp only [hh', Bool.false_eq_true, if_false]
    cases op <;> first | (simp [blindOp] at hb; done) | rfl | skip
    rename_i c
    obtain ⟨callee, args, argTypes⟩ := c
    cases callee with
    | builtin b => cases b <;> first | (simp [blindOp] at hb; done) | rfl
    | _ => simp [blindOp] at hb

theorem reads_hf {S : List Nat} {h h' : Heap} (hag : ∀ i ∈ S, h[i]? = h'[i]?) {v : AV} (hv : readsOk S v = true) : HF h h' v := by
  unfold readsOk at hv
  rw [Bool.or_eq_true] at hv
  rcases hv with hv | hv
  · exact .inl ⟨4, hv⟩
  · cases ho : objOf v with
    | none => rw [ho] at hv; cases hv
    | some i =>
      rw [ho] at hv
      exact .inr ⟨i, ho, hag i (by simpa using hv)⟩

/-- A free quiet step gives the same in heaps that agree where it looks. -/
theorem qval_free {C : Cfg} {rec : Rec} {pc : PRec} {h h' : Heap} {env : Env} {op : Op} {S : List Nat} (hag : ∀ i ∈ S, h[i]? = h'[i]?) (hf : hfreeOp S env op = true) : qval C rec pc h env op = qval C rec pc h' env op := by
  unfold hfreeOp at hf
  rw [Bool.or_eq_true] at hf
  rcases hf with hf | hf
  · exact blind_free hf
  have hf' : ∀ x ∈ op.operands, HF h h' (ev env x) := fun x hx => reads_hf hag (List.all_eq_true.1 hf x (by simpa using hx))
  unfold qval stepK
  by_cases hh : isHop op = true
  · simp [hh]
  · have hh' : isHop op = false := by simpa using hh
    simp only [hh', Bool.false_eq_true, if_false]
    split
    · rename_i f args argTypes
      have hcall : ∀ (g : FuncId) (avs : List AV), (∀ v ∈ avs, HF h h' v) → fcall C rec pc true g avs h (fun v _ => some v) = fcall C rec pc true g avs h' (fun v _ => some v) := by
        intro g avs hav
        unfold fcall
        by_cases ho : C.own g = true
        · simp [ho]
        have ho' : C.own g = false := by simpa using ho
        by_cases hg : C.heapful g = true
        · simp [ho', hg]
        · have hg' : C.heapful g = false := by simpa using hg
          simp only [ho', hg', Bool.false_eq_true, if_false, Bool.true_or, if_true]
          refine flatK_free _ _ hav _ _ fun ls hl => ?_
          rw [convs_free (h' := h') _ _ hl]
      have hargs : ∀ v ∈ args.toList.map (ev env), HF h h' v := fun v hv => by
        obtain ⟨x, hx, rfl⟩ := List.mem_map.1 hv
        exact hf' x (by simp [Op.operands, Call.operands]; right; simpa using hx)
      have hfun : HF h h' (ev env f) := hf' f (by simp [Op.operands, Call.operands])
      unfold callK
      try simp only [cnd_eq]
      split
      · rename_i g first captured he
        rw [he] at hfun
        rcases hfun with ⟨d, hd⟩ | ⟨i, hi, _⟩
        · cases d with
          | zero => cases hd
          | succ d =>
            simp only [hfree, Bool.and_eq_true] at hd
            rw [hcall g _ (fun v hv => by
              simp only [List.mem_append] at hv
              rcases hv with (hv | hv) | hv
              · exact .inl ⟨d, List.all_eq_true.1 hd.1 v hv⟩
              · exact hargs v hv
              · exact .inl ⟨d, List.all_eq_true.1 hd.2 v hv⟩)]
        · cases hi
      · rw [hcall _ _ hargs]
      · rfl
      · rfl
    · split
      · rfl
      · exact qop_free hf' _
    · exact qop_free hf' _

end Ab
