/- Sooner or later: what the evaluator answers with enough fuel. Loops over lists. -/
import Derived.Test.YthgemjameiibpaaDoorAbW
set_option linter.unusedVariables false
namespace Ab
open Go

/-! ### from some fuel on -/
def Ev (p : Nat → Prop) : Prop := ∃ N, ∀ n, N ≤ n → p n
theorem Ev.of {p : Nat → Prop} (h : ∀ n, p n) : Ev p := ⟨0, fun n _ => h n⟩
theorem Ev.mono {p q : Nat → Prop} (h : ∀ n, p n → q n) : Ev p → Ev q
  | ⟨N, hN⟩ => ⟨N, fun n hn => h n (hN n hn)⟩
theorem Ev.and {p q : Nat → Prop} : Ev p → Ev q → Ev fun n => p n ∧ q n
  | ⟨N, hN⟩, ⟨M, hM⟩ => ⟨max N M, fun n hn => ⟨hN n (by omega), hM n (by omega)⟩⟩
theorem Ev.mp {p q : Nat → Prop} (h : Ev p) (k : Ev fun n => p n → q n) : Ev q := (h.and k).mono fun _ x => x.2 x.1
theorem Ev.rwZ {Z R : Type} {H : Nat → Prop} {T T' : Nat → Z → R} {r : Z → R} (hH : Ev H) (h : ∀ n, H n → ∀ z, T n z = T' n z) (k : Ev fun n => ∀ z, T' n z = r z) : Ev fun n => ∀ z, T n z = r z :=
  (hH.and k).mono fun n x z => (h n x.1 z).trans (x.2 z)
theorem Ev.rw {R : Type} {H : Nat → Prop} {T T' : Nat → R} {r : R} (hH : Ev H) (h : ∀ n, H n → T n = T' n) (k : Ev fun n => T' n = r) : Ev fun n => T n = r :=
  (hH.and k).mono fun n x => (h n x.1).trans x.2
theorem Ev.tt : Ev fun _ => True := Ev.of fun _ => trivial
theorem Ev.conv {H P Q : Nat → Prop} (hH : Ev H) (h : ∀ n, H n → Q n → P n) (k : Ev Q) : Ev P := (hH.and k).mono fun n x => h n x.1 x.2
theorem Ev.conv' {P Q : Nat → Prop} (h : ∀ n, Q n → P n) (k : Ev Q) : Ev P := k.mono h
theorem Ev.succ {p : Nat → Prop} : (Ev fun n => p (n + 1)) → Ev p
  | ⟨N, hN⟩ => ⟨N + 1, fun n hn => by
    obtain ⟨m, rfl⟩ : ∃ m, n = m + 1 := ⟨n - 1, by omega⟩
    exact hN m (by omega)⟩
theorem Ev.ge (k : Nat) : Ev fun n => k ≤ n := ⟨k, fun _ h => h⟩
theorem Ev.add {p : Nat → Prop} (k : Nat) : (Ev fun n => p (n + k)) → Ev p
  | ⟨N, hN⟩ => ⟨N + k, fun n hn => by
    obtain ⟨m, rfl⟩ : ∃ m, n = m + k := ⟨n - k, by omega⟩
    exact hN m (by omega)⟩

/-- The function answers so, from some fuel on. -/
def Runs (C : Cfg) (f : FuncId) (xs ys : List Tree) : Prop := Ev fun n => apure C n f xs = some ys

theorem Runs.of {C : Cfg} {f : FuncId} {xs ys : List Tree} {g : Nat → Option (List Tree)} (h : ∀ n, apure C (n + 1) f xs = g n) (k : Ev fun n => g n = some ys) : Runs C f xs ys :=
  Ev.succ (k.mono fun n e => (h n).trans e)

variable {R S α σ : Type}

theorem cnd_pos {c : Prop} [Decidable c] (h : c) (a b : Option R) : cnd c a b = a := by rw [cnd_eq, if_pos h]
theorem cnd_neg {c : Prop} [Decidable c] (h : ¬ c) (a b : Option R) : cnd c a b = b := by rw [cnd_eq, if_neg h]

/-! ### loops -/
/-- What a round does: it goes on, or the loop is left with an answer. -/
inductive Rd (σ Q : Type) where
  | next (s : σ)
  | done (r : Q)
def Rd.go {Q : Type} (again : σ → Option R) (out : Q → Option R) : Rd σ Q → Option R
  | .next s => again s
  | .done r => out r
def Rd.fin {Q : Type} (res : σ → Q) : Rd σ Q → Q
  | .next s => res s
  | .done r => r
theorem Rd.go_next {Q : Type} (again : σ → Option R) (out : Q → Option R) (s : σ) : (Rd.next s : Rd σ Q).go again out = again s := rfl
theorem Rd.go_done {Q : Type} (again : σ → Option R) (out : Q → Option R) (r : Q) : (Rd.done r : Rd σ Q).go again out = out r := rfl
theorem Rd.go_ite {Q : Type} (again : σ → Option R) (out : Q → Option R) (c : Prop) [Decidable c] (a b : Rd σ Q) : (if c then a else b).go again out = if c then a.go again out else b.go again out := by split <;> rfl

/-- A loop over a list. -/
def runL {Q : Type} (step : Nat → σ → α → Rd σ Q) (fin : σ → Q) : Nat → List α → σ → Q
  | _, [], s => fin s
  | i, x :: l, s => match step i s x with
    | .next s' => runL step fin (i + 1) l s'
    | .done r => r

theorem loop_list {Z Q : Type} {B : Nat → Z → S → (S → Option R) → Option R} (l : List α) (st : Nat → σ → S) (step : Nat → σ → α → Rd σ Q) (fin : σ → Q) (out : Z → Q → Option R) (Inv : Nat → σ → Prop)
    (hstep : ∀ i s x, l[i]? = some x → Inv i s → Ev fun n => ∀ z again, B n z (st i s) again = (step i s x).go (fun s' => again (st (i + 1) s')) (out z))
    (hinv : ∀ i s x s', l[i]? = some x → Inv i s → step i s x = .next s' → Inv (i + 1) s')
    (hend : ∀ s, Inv l.length s → Ev fun n => ∀ z again, B n z (st l.length s) again = out z (fin s)) :
    ∀ (k i : Nat) (s : σ), i + k = l.length → Inv i s → Ev fun n => ∀ z m, k < m → loopIter (B n z) m (st i s) = out z (runL step fin i (l.drop i) s)
  | 0, i, s, hi, hI => by
    obtain rfl : i = l.length := by omega
    refine (hend s hI).mono fun n h z m hm => ?_
    obtain ⟨m, rfl⟩ : ∃ q, m = q + 1 := ⟨m - 1, by omega⟩
    show B n z _ _ = _
    rw [h]
    simp [runL]
  | k + 1, i, s, hi, hI => by
    have hlt : i < l.length := by omega
    have hx : l[i]? = some l[i] := List.getElem?_eq_getElem hlt
    have hd : l.drop i = l[i] :: l.drop (i + 1) := List.drop_eq_getElem_cons hlt
    cases hs : step i s l[i] with
    | next s' =>
      have ih := loop_list l st step fin out Inv hstep hinv hend k (i + 1) s' (by omega) (hinv i s _ s' hx hI hs)
      refine ((hstep i s _ hx hI).and ih).mono fun n h z m hm => ?_
      obtain ⟨m, rfl⟩ : ∃ q, m = q + 1 := ⟨m - 1, by omega⟩
      show B n z _ (loopIter (B n z) m) = _
      rw [h.1, hs, hd]
      simp only [Rd.go_next, runL, hs]
      exact h.2 z m (by omega)
    | done r =>
      refine (hstep i s _ hx hI).mono fun n h z m hm => ?_
      obtain ⟨m, rfl⟩ : ∃ q, m = q + 1 := ⟨m - 1, by omega⟩
      show B n z _ (loopIter (B n z) m) = _
      rw [h, hs, hd]
      simp only [Rd.go_done, runL, hs]

/-- A loop over a list, from its start, with what comes behind it. -/
theorem ev_loopZ {Z Q : Type} {B : Nat → Z → S → (S → Option R) → Option R} (l : List α) (st : Nat → σ → S) (step : Nat → σ → α → Rd σ Q) (fin : σ → Q) (out : Z → Q → Option R) (Inv : Nat → σ → Prop) (s0 : σ) (h0 : Inv 0 s0)
    (hstep : ∀ i s x, l[i]? = some x → Inv i s → Ev fun n => ∀ z again, B n z (st i s) again = (step i s x).go (fun s' => again (st (i + 1) s')) (out z))
    (hinv : ∀ i s x s', l[i]? = some x → Inv i s → step i s x = .next s' → Inv (i + 1) s')
    (hend : ∀ s, Inv l.length s → Ev fun n => ∀ z again, B n z (st l.length s) again = out z (fin s)) :
    Ev fun n => ∀ z, loopIter (B n z) n (st 0 s0) = out z (runL step fin 0 l s0) := by
  have h := loop_list l st step fin out Inv hstep hinv hend l.length 0 s0 (by omega) h0
  refine (h.and (Ev.ge (l.length + 1))).mono fun n x z => ?_
  have := x.1 z n (by omega)
  simpa using this

/-- A loop over a list, from its start. -/
theorem ev_loop {B : Nat → S → (S → Option R) → Option R} (l : List α) (st : Nat → σ → S) (step : Nat → σ → α → Rd σ R) (fin : σ → R) (Inv : Nat → σ → Prop) (s0 : σ) (h0 : Inv 0 s0)
    (hstep : ∀ i s x, l[i]? = some x → Inv i s → Ev fun n => ∀ again, B n (st i s) again = (step i s x).go (fun s' => again (st (i + 1) s')) some)
    (hinv : ∀ i s x s', l[i]? = some x → Inv i s → step i s x = .next s' → Inv (i + 1) s')
    (hend : ∀ s, Inv l.length s → Ev fun n => ∀ again, B n (st l.length s) again = some (fin s)) :
    Ev fun n => loopIter (B n) n (st 0 s0) = some (runL step fin 0 l s0) :=
  (ev_loopZ (Z := Unit) (B := fun n _ => B n) l st step fin (fun _ => some) Inv s0 h0 (fun i s x hx hI => (hstep i s x hx hI).mono fun n h _ => h) hinv fun s hI => (hend s hI).mono fun n h _ => h).mono fun n h => h ()

/-- A loop whose measure falls, with what comes behind it. -/
theorem while_list {Z Q : Type} {B : Nat → Z → S → (S → Option R) → Option R} (st : σ → S) (step : σ → Rd σ Q) (out : Z → Q → Option R) (Inv : σ → Prop) (μ : σ → Nat)
    (hstep : ∀ s, Inv s → Ev fun n => ∀ z again, B n z (st s) again = (step s).go (fun s' => again (st s')) (out z))
    (hinv : ∀ s s', Inv s → step s = .next s' → Inv s' ∧ μ s' < μ s) (res : σ → Q) (hres : ∀ s, Inv s → res s = (step s).fin res) :
    ∀ (k : Nat) (s : σ), μ s ≤ k → Inv s → Ev fun n => ∀ z m, k < m → loopIter (B n z) m (st s) = out z (res s)
  | k, s, hk, hI => by
    cases hs : step s with
    | next s' =>
      obtain ⟨h1, h2⟩ := hinv s s' hI hs
      obtain ⟨k, rfl⟩ : ∃ q, k = q + 1 := ⟨k - 1, by omega⟩
      have ih := while_list st step out Inv μ hstep hinv res hres k s' (by omega) h1
      refine ((hstep s hI).and ih).mono fun n h z m hm => ?_
      obtain ⟨m, rfl⟩ : ∃ q, m = q + 1 := ⟨m - 1, by omega⟩
      show B n z _ (loopIter (B n z) m) = _
      rw [h.1, hs, Rd.go_next, hres s hI, hs]
      show _ = out z (res s')
      exact h.2 z m (by omega)
    | done r =>
      refine (hstep s hI).mono fun n h z m hm => ?_
      obtain ⟨m, rfl⟩ : ∃ q, m = q + 1 := ⟨m - 1, by omega⟩
      show B n z _ (loopIter (B n z) m) = _
      rw [h, hs, Rd.go_done, hres s hI, hs]; rfl

theorem ev_whileZ {Z Q : Type} {B : Nat → Z → S → (S → Option R) → Option R} (st : σ → S) (step : σ → Rd σ Q) (out : Z → Q → Option R) (Inv : σ → Prop) (μ : σ → Nat) (s0 : σ) (h0 : Inv s0)
    (hstep : ∀ s, Inv s → Ev fun n => ∀ z again, B n z (st s) again = (step s).go (fun s' => again (st s')) (out z))
    (hinv : ∀ s s', Inv s → step s = .next s' → Inv s' ∧ μ s' < μ s) (res : σ → Q) (hres : ∀ s, Inv s → res s = (step s).fin res) :
    Ev fun n => ∀ z, loopIter (B n z) n (st s0) = out z (res s0) := by
  have h := while_list st step out Inv μ hstep hinv res hres (μ s0) s0 (Nat.le_refl _) h0
  exact (h.and (Ev.ge (μ s0 + 1))).mono fun n x z => x.1 z n (by omega)

theorem ev_while {B : Nat → S → (S → Option R) → Option R} (st : σ → S) (step : σ → Rd σ R) (Inv : σ → Prop) (μ : σ → Nat) (s0 : σ) (h0 : Inv s0)
    (hstep : ∀ s, Inv s → Ev fun n => ∀ again, B n (st s) again = (step s).go (fun s' => again (st s')) some)
    (hinv : ∀ s s', Inv s → step s = .next s' → Inv s' ∧ μ s' < μ s) (res : σ → R) (hres : ∀ s, Inv s → res s = (step s).fin res) :
    Ev fun n => loopIter (B n) n (st s0) = some (res s0) :=
  (ev_whileZ (Z := Unit) (B := fun n _ => B n) st step (fun _ => some) Inv μ s0 h0 (fun s hI => (hstep s hI).mono fun n h _ => h) hinv res hres).mono fun n h => h ()

theorem loop_over {B : Nat → S → (S → Option R) → Option R} {s : S} {r : R} (l : List α) (st : Nat → σ → S) (step : Nat → σ → α → Rd σ R) (fin : σ → R) (Inv : Nat → σ → Prop) (s0 : σ) (hs : s = st 0 s0) (h0 : Inv 0 s0) (hr : runL step fin 0 l s0 = r)
    (hstep : ∀ i s x, l[i]? = some x → Inv i s → Ev fun n => ∀ again, B n (st i s) again = (step i s x).go (fun s' => again (st (i + 1) s')) some)
    (hinv : ∀ i s x s', l[i]? = some x → Inv i s → step i s x = .next s' → Inv (i + 1) s')
    (hend : ∀ s, Inv l.length s → Ev fun n => ∀ again, B n (st l.length s) again = some (fin s)) :
    Ev fun n => loopIter (B n) n s = some r := by
  subst hs
  subst hr
  exact ev_loop l st step fin Inv s0 h0 hstep hinv hend

theorem loop_overZ {Z Q : Type} {B : Nat → Z → S → (S → Option R) → Option R} {s : S} {r : Q} (l : List α) (st : Nat → σ → S) (step : Nat → σ → α → Rd σ Q) (fin : σ → Q) (out : Z → Q → Option R) (Inv : Nat → σ → Prop) (s0 : σ) (hs : s = st 0 s0) (h0 : Inv 0 s0) (hr : runL step fin 0 l s0 = r)
    (hstep : ∀ i s x, l[i]? = some x → Inv i s → Ev fun n => ∀ z again, B n z (st i s) again = (step i s x).go (fun s' => again (st (i + 1) s')) (out z))
    (hinv : ∀ i s x s', l[i]? = some x → Inv i s → step i s x = .next s' → Inv (i + 1) s')
    (hend : ∀ s, Inv l.length s → Ev fun n => ∀ z again, B n z (st l.length s) again = out z (fin s)) :
    Ev fun n => ∀ z, loopIter (B n z) n s = out z r := by
  subst hs
  subst hr
  exact ev_loopZ l st step fin out Inv s0 h0 hstep hinv hend

/-! ### words for simp -/
theorem cnd_true {i : Decidable True} (a b : Option R) : cnd True a b = a := cnd_pos trivial a b
theorem cnd_false {i : Decidable False} (a b : Option R) : cnd False a b = b := cnd_neg id a b

theorem wrap64 (x : Int) : IntKind.wrap .i64 x = (x + 9223372036854775808) % 18446744073709551616 - 9223372036854775808 := by
  simp only [IntKind.wrap, IntKind.signed, IntKind.bits]
  simp
  omega
theorem wrap_id {x : Int} (h1 : -9223372036854775808 ≤ x) (h2 : x < 9223372036854775808) : IntKind.wrap .i64 x = x := by rw [wrap64]; omega

/-! ### short words of the printed texts -/
abbrev tI (n : Int) : Tree := .int .i64 n
abbrev w64 (n : Int) : Int := IntKind.wrap .i64 n
def vI (p : List AV × Heap) (k : Nat) : Int := intOf (treeOf (p.1.getD k .undef))
def vB (p : List AV × Heap) (k : Nat) : Bool := boolOf (treeOf (p.1.getD k .undef))
def vS (p : List AV × Heap) (k : Nat) : ByteArray := strOf (treeOf (p.1.getD k .undef))
def vL (p : List AV × Heap) (k : Nat) : List (List Tree) := slOf (treeOf (p.1.getD k .undef))
def sVer (p : List AV × Heap) (k : Nat) : Nat := srVer (p.1.getD k .undef)
def sOff (p : List AV × Heap) (k : Nat) : Nat := srOff (p.1.getD k .undef)
def sLen (p : List AV × Heap) (k : Nat) : Nat := srLen (p.1.getD k .undef)
def oVer (p : List AV × Heap) (k : Nat) : Nat := AObj.ver (p.2.getD k default)
def oEs (p : List AV × Heap) (k : Nat) : List (List Tree) := esOf (p.2.getD k default)
def cI (p : List AV × Heap) (k j : Nat) : Int := intOf (treeOf (cellOf (p.2.getD k default) j))
def cB (p : List AV × Heap) (k j : Nat) : Bool := boolOf (treeOf (cellOf (p.2.getD k default) j))
def cS (p : List AV × Heap) (k j : Nat) : ByteArray := strOf (treeOf (cellOf (p.2.getD k default) j))
def cL (p : List AV × Heap) (k j : Nat) : List (List Tree) := slOf (treeOf (cellOf (p.2.getD k default) j))
def cVer (p : List AV × Heap) (k j : Nat) : Nat := srVer (cellOf (p.2.getD k default) j)
def cOff (p : List AV × Heap) (k j : Nat) : Nat := srOff (cellOf (p.2.getD k default) j)
def cLen (p : List AV × Heap) (k j : Nat) : Nat := srLen (cellOf (p.2.getD k default) j)
def aI (p : List AV × Heap) (k j : Nat) : Int := intOf (treeOf (cellOf (.box (aggOf (p.1.getD k .undef))) j))
def aB (p : List AV × Heap) (k j : Nat) : Bool := boolOf (treeOf (cellOf (.box (aggOf (p.1.getD k .undef))) j))
def aS (p : List AV × Heap) (k j : Nat) : ByteArray := strOf (treeOf (cellOf (.box (aggOf (p.1.getD k .undef))) j))
def aL (p : List AV × Heap) (k j : Nat) : List (List Tree) := slOf (treeOf (cellOf (.box (aggOf (p.1.getD k .undef))) j))
def gI (y : List Tree) (k : Nat) : Int := intOf (y.getD k default)
def gB (y : List Tree) (k : Nat) : Bool := boolOf (y.getD k default)
def gS (y : List Tree) (k : Nat) : ByteArray := strOf (y.getD k default)
def gL (y : List Tree) (k : Nat) : List (List Tree) := slOf (y.getD k default)
def okI (y : List Tree) (k : Nat) : Prop := isIntT .i64 (y.getD k default) = true
def okB (y : List Tree) (k : Nat) : Prop := isBoolT (y.getD k default) = true
def okS (y : List Tree) (k : Nat) : Prop := isStrT (y.getD k default) = true
def okL (z : Nat) (y : List Tree) (k : Nat) : Prop := isSlT z (y.getD k default) = true
instance (y : List Tree) (k : Nat) : Decidable (okI y k) := inferInstanceAs (Decidable (_ = true))
instance (y : List Tree) (k : Nat) : Decidable (okB y k) := inferInstanceAs (Decidable (_ = true))
instance (y : List Tree) (k : Nat) : Decidable (okS y k) := inferInstanceAs (Decidable (_ = true))
instance (z : Nat) (y : List Tree) (k : Nat) : Decidable (okL z y k) := inferInstanceAs (Decidable (_ = true))

theorem w64_succ {i : Nat} (h : i < 4611686018427387904) : w64 ((i : Int) + 1) = ((i + 1 : Nat) : Int) := by
  show IntKind.wrap .i64 _ = _
  rw [wrap64]; omega
theorem w64_pred {i : Nat} (h : i < 4611686018427387904) (h0 : 0 < i) : w64 ((i : Int) - 1) = ((i - 1 : Nat) : Int) := by
  show IntKind.wrap .i64 _ = _
  rw [wrap64]; omega
theorem w64_id {x : Int} (h1 : -9223372036854775808 ≤ x) (h2 : x < 9223372036854775808) : w64 x = x := wrap_id h1 h2

theorem runL_fold {Q : Type} (f : σ → α → σ) (fin : σ → Q) : ∀ (i : Nat) (l : List α) (s : σ), runL (fun _ s x => .next (f s x)) fin i l s = fin (l.foldl f s)
  | _, [], _ => rfl
  | i, x :: l, s => by
    show runL (fun _ s x => .next (f s x)) fin (i + 1) l (f s x) = _
    rw [runL_fold f fin (i + 1) l]
    rfl

theorem foldl_filterMap {β : Type} (g : α → Option β) : ∀ (l : List α) (s : List β), l.foldl (fun s x => s ++ (g x).toList) s = s ++ l.filterMap g
  | [], s => by simp
  | x :: l, s => by
    rw [List.foldl_cons, foldl_filterMap g l]
    cases h : g x <;> simp [h]

theorem lt_of_some {l : List α} {i : Nat} {x : α} (h : l[i]? = some x) : i < l.length := (List.getElem?_eq_some_iff.1 h).1
theorem tI_ite (c : Prop) [Decidable c] (a b : Int) : (if c then some [tI a] else some [tI b]) = some [tI (if c then a else b)] := by split <;> rfl
theorem tI_cnd (c : Prop) [Decidable c] (a b : Int) : cnd c (some [tI a]) (some [tI b]) = some [tI (if c then a else b)] := by rw [cnd_eq, tI_ite]
theorem tB_cnd (c : Prop) [Decidable c] (a b : Bool) : cnd c (some [Tree.bool a]) (some [Tree.bool b]) = some [Tree.bool (if c then a else b)] := by rw [cnd_eq]; split <;> rfl
theorem tI2_cnd (c : Prop) [Decidable c] (a b a' b' : Int) : cnd c (some [tI a, tI a']) (some [tI b, tI b']) = some [tI (if c then a else b), tI (if c then a' else b')] := by rw [cnd_eq]; split <;> rfl

theorem loop_overQ {Q : Type} {B : Nat → S → (S → Option R) → Option R} {s : S} (out : Q → R) (l : List α) (st : Nat → σ → S) (step : Nat → σ → α → Rd σ Q) (fin : σ → Q) (Inv : Nat → σ → Prop) (s0 : σ) (hs : s = st 0 s0) (h0 : Inv 0 s0) {r : Q} (hr : runL step fin 0 l s0 = r)
    (hstep : ∀ i s x, l[i]? = some x → Inv i s → Ev fun n => ∀ again, B n (st i s) again = (step i s x).go (fun s' => again (st (i + 1) s')) (fun q => some (out q)))
    (hinv : ∀ i s x s', l[i]? = some x → Inv i s → step i s x = .next s' → Inv (i + 1) s')
    (hend : ∀ s, Inv l.length s → Ev fun n => ∀ again, B n (st l.length s) again = some (out (fin s))) :
    Ev fun n => loopIter (B n) n s = some (out r) := by
  subst hs
  subst hr
  exact (ev_loopZ (Z := Unit) (B := fun n _ => B n) l st step fin (fun _ q => some (out q)) Inv s0 h0 (fun i s x hx hI => (hstep i s x hx hI).mono fun n h _ => h) hinv fun s hI => (hend s hI).mono fun n h _ => h).mono fun n h => h ()

theorem while_overZ {Z Q : Type} {B : Nat → Z → S → (S → Option R) → Option R} {s : S} {r : Q} (out : Z → Q → Option R) (st : σ → S) (step : σ → Rd σ Q) (Inv : σ → Prop) (μ : σ → Nat) (res : σ → Q) (s0 : σ) (hs : s = st s0) (h0 : Inv s0) (hr : res s0 = r)
    (hstep : ∀ s, Inv s → Ev fun n => ∀ z again, B n z (st s) again = (step s).go (fun s' => again (st s')) (out z))
    (hinv : ∀ s s', Inv s → step s = .next s' → Inv s' ∧ μ s' < μ s) (hres : ∀ s, Inv s → res s = (step s).fin res) :
    Ev fun n => ∀ z, loopIter (B n z) n s = out z r := by
  subst hs
  subst hr
  exact ev_whileZ st step out Inv μ s0 h0 hstep hinv res hres
theorem while_overQ {Q : Type} {B : Nat → S → (S → Option R) → Option R} {s : S} {r : Q} (out : Q → R) (st : σ → S) (step : σ → Rd σ Q) (Inv : σ → Prop) (μ : σ → Nat) (res : σ → Q) (s0 : σ) (hs : s = st s0) (h0 : Inv s0) (hr : res s0 = r)
    (hstep : ∀ s, Inv s → Ev fun n => ∀ again, B n (st s) again = (step s).go (fun s' => again (st s')) (fun q => some (out q)))
    (hinv : ∀ s s', Inv s → step s = .next s' → Inv s' ∧ μ s' < μ s) (hres : ∀ s, Inv s → res s = (step s).fin res) :
    Ev fun n => loopIter (B n) n s = some (out r) :=
  (while_overZ (Z := Unit) (B := fun n _ => B n) (fun _ q => some (out q)) st step Inv μ res s0 hs h0 hr (fun s hI => (hstep s hI).mono fun n h _ => h) hinv hres).mono fun n h => h ()

/-- A search: the first element that answers true ends it. -/
theorem runL_any (p : α → Bool) : ∀ (i : Nat) (l : List α), runL (fun _ (_ : Unit) x => if p x = true then .done true else .next ()) (fun _ => false) i l () = l.any p
  | _, [] => rfl
  | i, x :: l => by
    by_cases h : p x = true
    · simp [runL, h]
    · simp only [runL, h, List.any_cons]
      simp at h
      simp [runL_any p (i + 1) l]
theorem runL_all {Q : Type} (p : α → Bool) (a b : Q) : ∀ (i : Nat) (l : List α), runL (fun _ (_ : Unit) x => if p x = true then .next () else .done a) (fun _ => b) i l () = if l.all p = true then b else a
  | _, [] => rfl
  | i, x :: l => by
    by_cases h : p x = true
    · simp [runL, h, runL_all p a b (i + 1) l]
    · simp [runL, h]

/-- Two lists, element by element. -/
def eqStep [DecidableEq α] (b : List α) (i : Nat) (_ : Unit) (x : α) : Rd Unit Bool := if b[i]? = some x then .next () else .done false
theorem eq_run [DecidableEq α] (b : List α) : ∀ (a : List α) (i : Nat), i + a.length = b.length → runL (eqStep b) (fun _ => true) i a () = decide (a = b.drop i)
  | [], i, h => by
    have : b.drop i = [] := List.drop_eq_nil_of_le (by simp at h; omega)
    simp [runL, this]
  | x :: a, i, h => by
    have hi : i < b.length := by simp at h; omega
    have hd : b.drop i = b[i] :: b.drop (i + 1) := List.drop_eq_getElem_cons hi
    have hb : b[i]? = some b[i] := List.getElem?_eq_getElem hi
    have ih := eq_run b a (i + 1) (by simp at h; omega)
    simp only [runL, eqStep, hb, hd]
    by_cases hx : b[i] = x
    · simp only [hx, if_true]
      exact ih.trans (by simp)
    · have hx2 : ¬ x = b[i] := fun e => hx e.symm
      simp only [Option.some.injEq, hx, if_false, List.cons.injEq, hx2, false_and, decide_false]

/-! ### readings of what is known -/
theorem vI_mk (e : List AV) (h : Heap) (k : Nat) : vI (e, h) k = intOf (treeOf (e.getD k .undef)) := id rfl
theorem vB_mk (e : List AV) (h : Heap) (k : Nat) : vB (e, h) k = boolOf (treeOf (e.getD k .undef)) := id rfl
theorem vS_mk (e : List AV) (h : Heap) (k : Nat) : vS (e, h) k = strOf (treeOf (e.getD k .undef)) := id rfl
theorem vL_mk (e : List AV) (h : Heap) (k : Nat) : vL (e, h) k = slOf (treeOf (e.getD k .undef)) := id rfl
theorem sVer_mk (e : List AV) (h : Heap) (k : Nat) : sVer (e, h) k = srVer (e.getD k .undef) := id rfl
theorem sOff_mk (e : List AV) (h : Heap) (k : Nat) : sOff (e, h) k = srOff (e.getD k .undef) := id rfl
theorem sLen_mk (e : List AV) (h : Heap) (k : Nat) : sLen (e, h) k = srLen (e.getD k .undef) := id rfl
theorem oVer_mk (e : List AV) (h : Heap) (k : Nat) : oVer (e, h) k = AObj.ver (h.getD k default) := id rfl
theorem oEs_mk (e : List AV) (h : Heap) (k : Nat) : oEs (e, h) k = esOf (h.getD k default) := id rfl
theorem cI_mk (e : List AV) (h : Heap) (k j : Nat) : cI (e, h) k j = intOf (treeOf (cellOf (h.getD k default) j)) := id rfl
theorem cB_mk (e : List AV) (h : Heap) (k j : Nat) : cB (e, h) k j = boolOf (treeOf (cellOf (h.getD k default) j)) := id rfl
theorem cS_mk (e : List AV) (h : Heap) (k j : Nat) : cS (e, h) k j = strOf (treeOf (cellOf (h.getD k default) j)) := id rfl
theorem cL_mk (e : List AV) (h : Heap) (k j : Nat) : cL (e, h) k j = slOf (treeOf (cellOf (h.getD k default) j)) := id rfl
theorem cVer_mk (e : List AV) (h : Heap) (k j : Nat) : cVer (e, h) k j = srVer (cellOf (h.getD k default) j) := id rfl
theorem cOff_mk (e : List AV) (h : Heap) (k j : Nat) : cOff (e, h) k j = srOff (cellOf (h.getD k default) j) := id rfl
theorem cLen_mk (e : List AV) (h : Heap) (k j : Nat) : cLen (e, h) k j = srLen (cellOf (h.getD k default) j) := id rfl
theorem aI_mk (e : List AV) (h : Heap) (k j : Nat) : aI (e, h) k j = intOf (treeOf ((aggOf (e.getD k .undef)).getD j .undef)) := id rfl
theorem aB_mk (e : List AV) (h : Heap) (k j : Nat) : aB (e, h) k j = boolOf (treeOf ((aggOf (e.getD k .undef)).getD j .undef)) := id rfl
theorem aS_mk (e : List AV) (h : Heap) (k j : Nat) : aS (e, h) k j = strOf (treeOf ((aggOf (e.getD k .undef)).getD j .undef)) := id rfl
theorem aL_mk (e : List AV) (h : Heap) (k j : Nat) : aL (e, h) k j = slOf (treeOf ((aggOf (e.getD k .undef)).getD j .undef)) := id rfl
theorem aggOf_agg (cs : List AV) : aggOf (.agg cs) = cs := id rfl
theorem join_eq {S : Type} (J : S → Option R) (f : (S → Option R) → Option R) : join J f = f J := id rfl
theorem gI_zero (x : Tree) (l : List Tree) : gI (x :: l) 0 = intOf x := id rfl
theorem gI_succ (x : Tree) (l : List Tree) (k : Nat) : gI (x :: l) (k + 1) = gI l k := id rfl
theorem gB_zero (x : Tree) (l : List Tree) : gB (x :: l) 0 = boolOf x := id rfl
theorem gB_succ (x : Tree) (l : List Tree) (k : Nat) : gB (x :: l) (k + 1) = gB l k := id rfl
theorem gS_zero (x : Tree) (l : List Tree) : gS (x :: l) 0 = strOf x := id rfl
theorem gS_succ (x : Tree) (l : List Tree) (k : Nat) : gS (x :: l) (k + 1) = gS l k := id rfl
theorem gL_zero (x : Tree) (l : List Tree) : gL (x :: l) 0 = slOf x := id rfl
theorem gL_succ (x : Tree) (l : List Tree) (k : Nat) : gL (x :: l) (k + 1) = gL l k := id rfl
theorem okI_zero (x : Tree) (l : List Tree) : okI (x :: l) 0 = (isIntT .i64 x = true) := id rfl
theorem okI_succ (x : Tree) (l : List Tree) (k : Nat) : okI (x :: l) (k + 1) = okI l k := id rfl
theorem okB_zero (x : Tree) (l : List Tree) : okB (x :: l) 0 = (isBoolT x = true) := id rfl
theorem okB_succ (x : Tree) (l : List Tree) (k : Nat) : okB (x :: l) (k + 1) = okB l k := id rfl
theorem okS_zero (x : Tree) (l : List Tree) : okS (x :: l) 0 = (isStrT x = true) := id rfl
theorem okS_succ (x : Tree) (l : List Tree) (k : Nat) : okS (x :: l) (k + 1) = okS l k := id rfl
theorem okL_zero (z : Nat) (x : Tree) (l : List Tree) : okL z (x :: l) 0 = (isSlT z x = true) := id rfl
theorem okL_succ (z : Nat) (x : Tree) (l : List Tree) (k : Nat) : okL z (x :: l) (k + 1) = okL z l k := id rfl
theorem isIntT_int (k : IntKind) (n : Int) : isIntT k (.int k n) = true := decide_eq_true rfl
theorem isBoolT_bool (b : Bool) : isBoolT (.bool b) = true := id rfl
theorem isStrT_str (b : ByteArray) : isStrT (.str b) = true := id rfl
theorem isSlT_sl (z : Nat) (es : List (List Tree)) : isSlT z (.sl z es) = true := by simp [isSlT]
theorem intOf_int (k : IntKind) (n : Int) : intOf (.int k n) = n := id rfl
theorem boolOf_bool (b : Bool) : boolOf (.bool b) = b := id rfl
theorem strOf_str (b : ByteArray) : strOf (.str b) = b := id rfl
theorem slOf_sl (z : Nat) (es : List (List Tree)) : slOf (.sl z es) = es := id rfl
theorem treeOf_t (x : Tree) : treeOf (.t x) = x := id rfl
theorem srVer_sref (i v o l : Nat) : srVer (.sref i v o l) = v := id rfl
theorem srOff_sref (i v o l : Nat) : srOff (.sref i v o l) = o := id rfl
theorem srLen_sref (i v o l : Nat) : srLen (.sref i v o l) = l := id rfl
theorem ver_row (f : Bool) (v z : Nat) (es : List (List Tree)) : AObj.ver (.row f v z es) = v := id rfl
theorem esOf_row (f : Bool) (v z : Nat) (es : List (List Tree)) : esOf (.row f v z es) = es := id rfl
theorem cellOf_box (cs : List AV) (j : Nat) : cellOf (.box cs) j = cs.getD j .undef := id rfl
end Ab
