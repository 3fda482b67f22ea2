/- Loops that come again and again: searches, deletions, insertions. -/
import Derived.Test.YthgemjameiibpaaDoorAbT
set_option linter.unusedVariables false
set_option linter.unusedSimpArgs false
namespace Ab
open Go
variable {R S α σ Q : Type}

theorem ev_unused {α : Type} {p : Nat → Prop} (h : Ev p) : Ev fun n => ∀ _ : α, p n := h.mono fun n x _ => x

/-! ### halves -/
theorem half (a b : Nat) (h : a + b < 4611686018427387904) : w64 (Int.tdiv (w64 ((a : Int) + (b : Int))) 2) = (((a + b) / 2 : Nat) : Int) := by
  rw [w64_id (x := (a : Int) + (b : Int)) (by omega) (by omega), show (a : Int) + (b : Int) = ((a + b : Nat) : Int) by omega, show Int.tdiv ((a + b : Nat) : Int) 2 = (((a + b) / 2 : Nat) : Int) from rfl, w64_id (by omega) (by omega)]
theorem wrapU64 (x : Int) : IntKind.wrap .u64 x = x % 18446744073709551616 := by
  simp only [IntKind.wrap, IntKind.signed, IntKind.bits]
  simp
theorem halfU (a b : Nat) (h : a + b < 4611686018427387904) : w64 (shrK .u64 (IntKind.wrap .u64 (w64 ((a : Int) + (b : Int)))) 1) = (((a + b) / 2 : Nat) : Int) := by
  have e1 : IntKind.wrap .u64 (w64 ((a : Int) + (b : Int))) = ((a + b : Nat) : Int) := by
    rw [w64_id (by omega) (by omega), wrapU64]
    omega
  have e2 : shrK .u64 ((a + b : Nat) : Int) 1 = (((a + b) / 2 : Nat) : Int) := by
    show Int.fdiv ((a + b : Nat) : Int) (2 ^ min (Int.toNat 1) (IntKind.bits .u64)) = _
    rw [show (2 : Int) ^ min (Int.toNat 1) (IntKind.bits .u64) = 2 from rfl, Int.fdiv_eq_ediv_of_nonneg _ (by omega)]
    omega
  rw [e1, e2, w64_id (by omega) (by omega)]

/-! ### binary search -/
def bsStep (lt : α → Bool) (l : List α) (fin : Nat → Q) (s : Nat × Nat) : Rd (Nat × Nat) Q :=
  if s.1 < s.2 then match l[(s.1 + s.2) / 2]? with
    | some x => if lt x = true then .next ((s.1 + s.2) / 2 + 1, s.2) else .next (s.1, (s.1 + s.2) / 2)
    | none => .next (s.2, s.2)
  else .done (fin s.1)
def BsInv (lt : α → Bool) (l : List α) (s : Nat × Nat) : Prop := s.1 ≤ s.2 ∧ s.2 ≤ l.length ∧ (∀ (j : Nat) x, j < s.1 → l[j]? = some x → lt x = true) ∧ ∀ (j : Nat) x, s.2 ≤ j → l[j]? = some x → lt x = false
theorem countP_at {lt : α → Bool} {l : List α} {k : Nat} (hk : k ≤ l.length) (h1 : ∀ (j : Nat) x, j < k → l[j]? = some x → lt x = true) (h2 : ∀ (j : Nat) x, k ≤ j → l[j]? = some x → lt x = false) : k = l.countP lt := by
  conv => rhs; rw [← List.take_append_drop k l]
  rw [List.countP_append, List.countP_eq_length.2, List.countP_eq_zero.2]
  · simp; omega
  · intro x hx
    obtain ⟨j, hj⟩ := List.mem_iff_getElem?.1 hx
    rw [List.getElem?_drop] at hj
    simp [h2 _ _ (by omega) hj]
  · intro x hx
    obtain ⟨j, hj⟩ := List.mem_iff_getElem?.1 hx
    have hjk : j < k := by have := lt_of_some hj; simp at this; omega
    rw [List.getElem?_take_of_lt hjk] at hj
    exact h1 _ _ hjk hj
/-- The places of a list where a test holds come first. -/
def Down (lt : α → Bool) (l : List α) : Prop := ∀ (i j : Nat) x y, i ≤ j → l[i]? = some x → l[j]? = some y → lt y = true → lt x = true
theorem bs_overZ {Z : Type} {B : Nat → Z → S → (S → Option R) → Option R} {s : S} (out : Z → Q → Option R) (lt : α → Bool) (l : List α) (fin : Nat → Q) (st : Nat × Nat → S) (hd : Down lt l) (hs : s = st (0, l.length))
    (hstep : ∀ s, s.1 ≤ s.2 → s.2 ≤ l.length → (¬ s.1 < s.2 → s.1 = l.countP lt) → Ev fun n => ∀ z again, B n z (st s) again = (bsStep lt l fin s).go (fun s' => again (st s')) (out z)) :
    Ev fun n => ∀ z, loopIter (B n z) n s = out z (fin (l.countP lt)) := by
  refine while_overZ (r := fin (l.countP lt)) out st (bsStep lt l fin) (BsInv lt l) (fun s => s.2 - s.1) (fun _ => fin (l.countP lt)) (0, l.length) hs ⟨by simp, by simp, fun j x h => by simp at h, fun j x h hx => by have := lt_of_some hx; simp at h; omega⟩ rfl
    (fun s hI => hstep s hI.1 hI.2.1 fun hn => ?_) (fun s s' hI hs' => ?_) (fun s hI => ?_)
  · obtain ⟨a, b⟩ := s
    obtain ⟨i1, i2, i3, i4⟩ := hI
    simp only at i1 i2 i3 i4 hn ⊢
    obtain rfl : a = b := by omega
    exact countP_at i2 i3 i4
  · obtain ⟨a, b⟩ := s
    obtain ⟨i1, i2, i3, i4⟩ := hI
    simp only at i1 i2 i3 i4
    unfold bsStep at hs'
    simp only at hs'
    split at hs'
    · rename_i hab
      split at hs'
      · rename_i x hx
        split at hs'
        · rename_i hxe
          cases hs'
          refine ⟨⟨by simp only; omega, i2, fun j y hj hy => ?_, i4⟩, by simp only; omega⟩
          simp only at hj
          exact hd j ((a + b) / 2) y x (by omega) hy hx hxe
        · rename_i hxe
          cases hs'
          refine ⟨⟨by simp only; omega, by simp only; omega, i3, fun j y hj hy => ?_⟩, by simp only; omega⟩
          simp only at hj
          cases hye : lt y with
          | false => rfl
          | true => exact absurd (hd ((a + b) / 2) j x y hj hx hy hye) hxe
      · rename_i hx
        rw [List.getElem?_eq_getElem (by omega)] at hx
        cases hx
    · cases hs'
  · obtain ⟨a, b⟩ := s
    obtain ⟨i1, i2, i3, i4⟩ := hI
    simp only at i1 i2 i3 i4
    unfold bsStep
    simp only
    split
    · split
      · split <;> rfl
      · rfl
    · obtain rfl : a = b := by omega
      simp only [Rd.fin]
      rw [← countP_at i2 i3 i4]
theorem bs_over {B : Nat → S → (S → Option R) → Option R} {s : S} (out : Q → R) (lt : α → Bool) (l : List α) (fin : Nat → Q) (st : Nat × Nat → S) (hd : Down lt l) (hs : s = st (0, l.length))
    (hstep : ∀ s, s.1 ≤ s.2 → s.2 ≤ l.length → (¬ s.1 < s.2 → s.1 = l.countP lt) → Ev fun n => ∀ again, B n (st s) again = (bsStep lt l fin s).go (fun s' => again (st s')) (fun q => some (out q))) :
    Ev fun n => loopIter (B n) n s = some (out (fin (l.countP lt))) :=
  (bs_overZ (Z := Unit) (B := fun n _ => B n) (fun _ q => some (out q)) lt l fin st hd hs fun s h1 h2 h3 => (hstep s h1 h2 h3).mono fun n h _ => h).mono fun n h => h ()
theorem countP_down {lt : α → Bool} : ∀ {l : List α}, Down lt l → l.take (l.countP lt) = l.takeWhile lt ∧ l.drop (l.countP lt) = l.dropWhile lt
  | [], _ => ⟨rfl, rfl⟩
  | x :: l, hd => by
    have hd' : Down lt l := fun i j a b hij ha hb h => hd (i + 1) (j + 1) a b (by omega) (by simpa using ha) (by simpa using hb) h
    obtain ⟨h1, h2⟩ := countP_down hd'
    cases hx : lt x with
    | true => simp [hx, h1, h2]
    | false =>
      have hz : l.countP lt = 0 := by
        rw [List.countP_eq_zero]
        intro y hy hly
        obtain ⟨j, hj⟩ := List.mem_iff_getElem?.1 hy
        have := hd 0 (j + 1) x y (by omega) rfl (by simpa using hj) hly
        rw [hx] at this; cases this
      simp [hx, hz]

/-! ### an insertion behind the elements that are less -/
/-- ahead of the first element where g holds -/
def insB (g : α → Bool) (b : α) : List α → List α
  | [] => [b]
  | x :: l => if g x = true then b :: x :: l else x :: insB g b l
theorem insB_tw (g : α → Bool) (b : α) : ∀ (l : List α), insB g b l = l.takeWhile (fun x => !g x) ++ b :: l.dropWhile (fun x => !g x)
  | [] => rfl
  | x :: l => by
    unfold insB
    cases h : g x with
    | true => simp [h]
    | false => simp [h, insB_tw g b l]
theorem insB_mem (g : α → Bool) (b : α) : ∀ (l : List α) (x : α), x ∈ insB g b l ↔ x = b ∨ x ∈ l
  | [], x => by simp [insB]
  | y :: l, x => by
    unfold insB
    split
    · simp
    · rw [List.mem_cons, insB_mem g b l, List.mem_cons]
      constructor
      · rintro (h | h | h)
        · exact .inr (.inl h)
        · exact .inl h
        · exact .inr (.inr h)
      · rintro (h | h | h)
        · exact .inr (.inl h)
        · exact .inl h
        · exact .inr (.inr h)
theorem insB_len (g : α → Bool) (b : α) : ∀ (l : List α), (insB g b l).length = l.length + 1
  | [] => rfl
  | y :: l => by
    unfold insB
    split
    · simp
    · simp [insB_len g b l]
theorem insB_congr {g g' : α → Bool} (b : α) : ∀ {l : List α}, (∀ x ∈ l, g x = g' x) → insB g b l = insB g' b l
  | [], _ => rfl
  | x :: l, h => by
    unfold insB
    rw [h x (by simp), insB_congr b fun y hy => h y (by simp [hy])]
theorem insB_filter (g : α → Bool) (b : α) (p : α → Bool) : ∀ (l : List α), p b = false → (insB g b l).filter p = l.filter p
  | [], h => by simp [insB, h]
  | x :: l, h => by
    unfold insB
    split
    · simp [h]
    · simp only [List.filter_cons, insB_filter g b p l h]
theorem insB_pairwise {Rl : α → α → Prop} {g : α → Bool} {b : α} : ∀ {l : List α}, l.Pairwise Rl → (∀ x ∈ l, g x = true → Rl b x) → (∀ x ∈ l, g x = false → Rl x b) → (∀ x ∈ l, ∀ y ∈ l, Rl x y → g x = true → g y = true) → (insB g b l).Pairwise Rl
  | [], _, _, _, _ => by simp [insB]
  | x :: l, hp, h1, h2, h3 => by
    rw [List.pairwise_cons] at hp
    unfold insB
    split
    · rename_i hg
      rw [List.pairwise_cons]
      refine ⟨fun y hy => ?_, List.pairwise_cons.2 hp⟩
      rcases List.mem_cons.1 hy with rfl | hm
      · exact h1 _ (by simp) hg
      · exact h1 y hy (h3 x (by simp) y hy (hp.1 y hm) hg)
    · rename_i hg
      rw [List.pairwise_cons]
      refine ⟨fun y hy => ?_, insB_pairwise hp.2 (fun y hy => h1 y (by simp [hy])) (fun y hy => h2 y (by simp [hy])) fun y hy z hz => h3 y (by simp [hy]) z (by simp [hz])⟩
      rcases (insB_mem g b l y).1 hy with rfl | hy
      · exact h2 x (by simp) (by simpa using hg)
      · exact hp.1 y hy
/-- The loop that builds the list anew. -/
def insStp (g : α → Bool) (b : α) (s : Nat × List α × Bool) (x : α) : Nat × List α × Bool := if s.2.2 = false ∧ g x = true then (s.1 + 2, s.2.1 ++ [b, x], true) else (s.1 + 1, s.2.1 ++ [x], s.2.2)
def insEnd (b : α) (s : Nat × List α × Bool) : List α := if s.2.2 = false then s.2.1 ++ [b] else s.2.1
theorem insStp_done (g : α → Bool) (b : α) : ∀ (l : List α) (v : Nat) (out : List α), (l.foldl (insStp g b) (v, out, true)).2 = (out ++ l, true)
  | [], v, out => by simp
  | x :: l, v, out => by
    rw [List.foldl_cons, show insStp g b (v, out, true) x = (v + 1, out ++ [x], true) by simp [insStp], insStp_done g b l]
    simp
theorem insStp_open (g : α → Bool) (b : α) : ∀ (l : List α) (v : Nat) (out : List α), insEnd b (l.foldl (insStp g b) (v, out, false)) = out ++ insB g b l
  | [], v, out => by simp [insEnd, insB]
  | x :: l, v, out => by
    rw [List.foldl_cons]
    by_cases h : g x = true
    · rw [show insStp g b (v, out, false) x = (v + 2, out ++ [b, x], true) by simp [insStp, h], insEnd, insStp_done]
      simp [insB, h]
    · rw [show insStp g b (v, out, false) x = (v + 1, out ++ [x], false) by simp [insStp, h], insStp_open g b l]
      simp [insB, h]
theorem insStp_len (g : α → Bool) (b : α) (s : Nat × List α × Bool) (x : α) {k : Nat} (h : s.2.1.length ≤ 2 * k) : (insStp g b s x).2.1.length ≤ 2 * (k + 1) := by
  unfold insStp
  split <;> simp <;> omega

/-! ### deletion in place -/
structure DS (α : Type) where
  i : Nat
  j : Nat
  es : List α
def dstep (p : α → Bool) (l : List α) (s : DS α) : Rd (DS α) (List α) :=
  match l[s.j]? with
  | none => .done (s.es.take s.i)
  | some x => if p x = true then .next ⟨s.i, s.j + 1, s.es⟩ else .next ⟨s.i + 1, s.j + 1, s.es.set s.i x⟩
def DInv (p : α → Bool) (l : List α) (s : DS α) : Prop := s.i < s.j ∧ s.j ≤ l.length ∧ s.es.length = l.length ∧ s.es.take s.i = (l.take s.j).filter (fun x => !p x) ∧ s.es.drop s.j = l.drop s.j
theorem DInv.at {p : α → Bool} {l : List α} {s : DS α} (h : DInv p l s) : s.es[s.j]? = l[s.j]? := by
  have := congrArg (fun m => m[0]?) h.2.2.2.2
  simpa using this
theorem take_set_succ {l : List α} {i : Nat} {x : α} (h : i < l.length) : (l.set i x).take (i + 1) = l.take i ++ [x] := by
  rw [List.take_add_one]
  simp [List.take_set_of_le, h]
theorem del_overZ {Z : Type} {B : Nat → Z → S → (S → Option R) → Option R} {s : S} (out : Z → List α → Option R) (p : α → Bool) (l : List α) (st : DS α → S) (s0 : DS α) (hs : s = st s0) (h0 : DInv p l s0)
    (hstep : ∀ s, DInv p l s → Ev fun n => ∀ z again, B n z (st s) again = (dstep p l s).go (fun s' => again (st s')) (out z)) :
    Ev fun n => ∀ z, loopIter (B n z) n s = out z (l.filter fun x => !p x) := by
  refine while_overZ (r := l.filter fun x => !p x) out st (dstep p l) (DInv p l) (fun s => l.length - s.j) (fun _ => l.filter fun x => !p x) s0 hs h0 rfl hstep (fun s s' hI hs' => ?_) (fun s hI => ?_)
  · obtain ⟨i, j, es⟩ := s
    obtain ⟨i1, i2, i3, i4, i5⟩ := hI
    simp only at i1 i2 i3 i4 i5
    unfold dstep at hs'
    simp only at hs'
    split at hs'
    · cases hs'
    · rename_i x hx
      have hj := lt_of_some hx
      have hd : l.drop (j + 1) = es.drop (j + 1) := by
        have := congrArg List.tail i5
        simpa using this.symm
      have ht : l.take (j + 1) = l.take j ++ [x] := by rw [List.take_add_one, hx]; rfl
      split at hs'
      · rename_i hp
        cases hs'
        exact ⟨⟨by simp only; omega, by simp only; omega, i3, by simp only [ht, List.filter_append, i4]; simp [hp], hd.symm⟩, by simp only; omega⟩
      · rename_i hp
        cases hs'
        refine ⟨⟨by simp only; omega, by simp only; omega, by simp [i3], ?_, ?_⟩, by simp only; omega⟩
        · simp only
          rw [take_set_succ (by omega), i4, ht, List.filter_append]
          simp [hp]
        · simp only
          rw [List.drop_set_of_lt (by omega)]
          exact hd.symm
  · obtain ⟨i, j, es⟩ := s
    obtain ⟨i1, i2, i3, i4, i5⟩ := hI
    simp only at i1 i2 i3 i4 i5
    unfold dstep
    simp only
    split
    · rename_i hn
      have : l.length ≤ j := by simpa using hn
      rw [List.take_of_length_le this] at i4
      simp [Rd.fin, i4]
    · split <;> rfl
theorem del_over {B : Nat → S → (S → Option R) → Option R} {s : S} (out : List α → R) (p : α → Bool) (l : List α) (st : DS α → S) (s0 : DS α) (hs : s = st s0) (h0 : DInv p l s0)
    (hstep : ∀ s, DInv p l s → Ev fun n => ∀ again, B n (st s) again = (dstep p l s).go (fun s' => again (st s')) (fun q => some (out q))) :
    Ev fun n => loopIter (B n) n s = some (out (l.filter fun x => !p x)) :=
  (del_overZ (Z := Unit) (B := fun n _ => B n) (fun _ q => some (out q)) p l st s0 hs h0 fun s h => (hstep s h).mono fun n h _ => h).mono fun n h => h ()
/-- Where the deletion begins: at the first element that goes. -/
theorem DInv.start {p : α → Bool} {l : List α} {i : Nat} {x : α} (hx : l[i]? = some x) (hp : p x = true) (hb : ∀ (j : Nat) y, j < i → l[j]? = some y → p y = false) : DInv p l ⟨i, i + 1, l⟩ := by
  have hi := lt_of_some hx
  have ht : l.take (i + 1) = l.take i ++ [x] := by rw [List.take_add_one, hx]; rfl
  refine ⟨by simp, by simp only; omega, rfl, ?_, rfl⟩
  simp only [ht, List.filter_append]
  have : (l.take i).filter (fun x => !p x) = l.take i := by
    rw [List.filter_eq_self]
    intro a ha
    obtain ⟨j, hj⟩ := List.mem_iff_getElem?.1 ha
    have hjk : j < i := by have := lt_of_some hj; simp at this; omega
    rw [List.getElem?_take_of_lt hjk] at hj
    simp [hb j a hjk hj]
  simp [this, hp]
theorem filter_none {p : α → Bool} {l : List α} (hb : ∀ (j : Nat) y, j < l.length → l[j]? = some y → p y = false) : l.filter (fun x => !p x) = l := by
  rw [List.filter_eq_self]
  intro a ha
  obtain ⟨j, hj⟩ := List.mem_iff_getElem?.1 ha
  simp [hb j a (lt_of_some hj) hj]

/-! ### rows overwritten -/
theorem rowSet_len (es : List (List Tree)) (p : Nat) (new : List (List Tree)) (h : p + new.length ≤ es.length) : (rowSet es p new).length = es.length := by
  simp [rowSet]; omega
theorem rowSet_take (es : List (List Tree)) (p : Nat) (new : List (List Tree)) (h : p + new.length ≤ es.length) : (rowSet es p new).take (p + new.length) = es.take p ++ new := by
  unfold rowSet
  rw [List.take_append_of_le_length (by simp; omega), List.take_of_length_le (by simp; omega)]
theorem rowSet_keep (es : List (List Tree)) (p k : Nat) (new : List (List Tree)) (hk : k ≤ p) (h : p ≤ es.length) : (rowSet es p new).take k = es.take k := by
  unfold rowSet
  rw [List.append_assoc, List.take_append_of_le_length (by simp; omega), List.take_take, Nat.min_eq_left hk]

/-! ### searches -/
theorem find_run (p : α → Bool) : ∀ (l : List α) (i : Nat), runL (fun i (_ : Unit) (x : α) => if p x = true then .done (i : Int) else .next ()) (fun _ => (-1 : Int)) i l () = ((l.findIdx? p).map fun j => ((i + j : Nat) : Int)).getD (-1)
  | [], i => rfl
  | x :: l, i => by
    cases hx : p x with
    | true => simp [runL, hx, List.findIdx?_cons]
    | false =>
      simp only [runL, hx, List.findIdx?_cons]
      have := find_run p l (i + 1)
      simp only [Bool.false_eq_true, if_false] at this ⊢
      rw [this, Option.map_map]
      congr 2
      funext j
      simp only [Function.comp_apply]
      omega
def idx (p : α → Bool) (l : List α) : Int := ((l.findIdx? p).map fun j => ((j : Nat) : Int)).getD (-1)
theorem find_run0 (p : α → Bool) (l : List α) : runL (fun i (_ : Unit) (x : α) => if p x = true then .done (i : Int) else .next ()) (fun _ => (-1 : Int)) 0 l () = idx p l := by
  have := find_run p l 0
  simpa [idx] using this
theorem idx_nonneg (p : α → Bool) (l : List α) : 0 ≤ idx p l ↔ l.any p = true := by
  unfold idx
  cases h : l.findIdx? p with
  | none =>
    rw [List.findIdx?_eq_none_iff] at h
    simp only [Option.map_none, Option.getD_none]
    constructor
    · intro h; omega
    · intro h2
      rw [List.any_eq_true] at h2
      obtain ⟨x, hx, hp⟩ := h2
      simp [h x hx] at hp
  | some j =>
    simp only [Option.map_some, Option.getD_some]
    rw [List.findIdx?_eq_some_iff_getElem] at h
    obtain ⟨h1, h2, _⟩ := h
    constructor
    · intro _
      rw [List.any_eq_true]
      exact ⟨_, List.getElem_mem h1, h2⟩
    · intro _; omega
/-- A whole search as a fold that goes on. -/
theorem runL_go (fin : σ → Q) (f : Nat → σ → α → σ) : ∀ (l : List α) (i : Nat) (s : σ) (Inv : Nat → σ → Prop), Inv i s → (∀ i s x, Inv i s → Inv (i + 1) (f i s x)) → (∀ s, Inv (i + l.length) s → True) → ∃ s', runL (fun i s x => Rd.next (f i s x)) fin i l s = fin s' ∧ Inv (i + l.length) s'
  | [], i, s, Inv, h, _, _ => ⟨s, rfl, h⟩
  | x :: l, i, s, Inv, h, h2, _ => by
    obtain ⟨s', e, hI⟩ := runL_go fin f l (i + 1) (f i s x) Inv (h2 i s x h) h2 fun _ _ => trivial
    exact ⟨s', e, by rw [List.length_cons, show i + (l.length + 1) = i + 1 + l.length by omega]; exact hI⟩
end Ab
