/- Soundness: the orders of a region. -/
import Derived.Test.YthgemjameiibpaaDoorAbL
set_option linter.unusedVariables false
set_option linter.unusedSimpArgs false
namespace Ab
open Go

def EdgesIn (ops : Array Oper) (S : List Nat) (i : Nat) : Prop := ∀ o, ops[i]? = some o → ∀ e ∈ o.after.toList, Region.binds .any e = true → e.on ∈ S
def Ready (ops : Array Oper) (S : List Nat) (i : Nat) : Prop := i < ops.size ∧ i ∉ S ∧ EdgesIn ops S i

inductive Sched (ops : Array Oper) : List Nat → List Nat → Prop
  | nil (S : List Nat) : (∀ i, ¬ Ready ops S i) → Sched ops S []
  | cons (S : List Nat) (i : Nat) (l : List Nat) : Ready ops S i → Sched ops (i :: S) l → Sched ops S (i :: l)

def Listed (ops : Array Oper) (listed : Array Bool) (S : List Nat) : Prop := listed.size = ops.size ∧ ∀ i, i < ops.size → (listed.getD i true = true ↔ i ∈ S)

theorem ready_iff {ops : Array Oper} {listed : Array Bool} {S : List Nat} (hl : Listed ops listed S) (hS : ∀ i ∈ S, i < ops.size) (i : Nat) : i ∈ Region.ready .any ops listed ↔ Ready ops S i := by
  unfold Region.ready Ready EdgesIn
  simp only [List.mem_filter, List.mem_range, Bool.and_eq_true, Bool.not_eq_true']
  constructor
  · rintro ⟨hi, hn, he⟩
    refine ⟨hi, fun hm => ?_, fun o ho e hem hb => ?_⟩
    · have := (hl.2 i hi).2 hm
      rw [this] at hn
      cases hn
    · rw [ho] at he
      simp only [Option.map_some, Option.getD_some] at he
      have h1 := (Array.all_eq_true_iff_forall_mem.1 he) e (by simpa using hem)
      rw [hb] at h1
      simp only [Bool.not_true, Bool.false_or] at h1
      have hlt : e.on < ops.size := by
        rcases Nat.lt_or_ge e.on ops.size with h | h
        · exact h
        · have : listed.getD e.on false = false := by
            have h2 : ¬ e.on < listed.size := by rw [hl.1]; omega
            simp only [Array.getD, h2, dif_neg, not_false_eq_true]
          rw [this] at h1
          cases h1
      refine (hl.2 e.on hlt).1 ?_
      have h2 : e.on < listed.size := by rw [hl.1]; exact hlt
      simp only [Array.getD, h2, dif_pos] at h1 ⊢
      exact h1
  · rintro ⟨hi, hn, he⟩
    refine ⟨hi, ?_, ?_⟩
    · cases hg : listed.getD i true with
      | false => rfl
      | true => exact (hn ((hl.2 i hi).1 hg)).elim
    · have ho : ops[i]? = some ops[i] := Array.getElem?_eq_getElem hi
      rw [ho]
      simp only [Option.map_some, Option.getD_some]
      refine Array.all_eq_true_iff_forall_mem.2 fun e hem => ?_
      cases hb : Region.binds .any e with
      | false => rfl
      | true =>
        have h1 := he _ ho e (by simpa using hem) hb
        have hlt := hS _ h1
        have h2 := (hl.2 e.on hlt).2 h1
        have h3 : e.on < listed.size := by rw [hl.1]; exact hlt
        simp only [Array.getD, h3, dif_pos] at h2 ⊢
        simpa using h2

theorem listed_set {ops : Array Oper} {listed : Array Bool} {S : List Nat} (hl : Listed ops listed S) {i : Nat} (hi : i < ops.size) : Listed ops (listed.setIfInBounds i true) (i :: S) := by
  refine ⟨by simpa using hl.1, fun j hj => ?_⟩
  have h1 : j < listed.size := by rw [hl.1]; exact hj
  have := hl.2 j hj
  simp only [Array.getD, h1, dif_pos] at this
  by_cases hij : j = i
  · subst hij
    simp [Array.getD, h1]
  · simp only [Array.getD, Array.size_setIfInBounds, h1, dif_pos, List.mem_cons, hij, false_or]
    rw [← this]
    have e : (listed.setIfInBounds i true)[j]'(by simpa using h1) = listed[j] := Array.getElem_setIfInBounds_ne (by simpa using h1) (Ne.symm hij)
    show (listed.setIfInBounds i true)[j]'(by simpa using h1) = true ↔ listed[j] = true
    rw [e]

theorem nodup_len : ∀ (n : Nat) (l : List Nat), l.Nodup → (∀ x ∈ l, x < n) → l.length ≤ n
  | 0, l, hn, hl => by
    cases l with
    | nil => simp
    | cons x xs => exact absurd (hl x (by simp)) (by omega)
  | n + 1, l, hn, hl => by
    by_cases hm : n ∈ l
    · have h1 := nodup_len n (l.erase n) (hn.erase n) fun x hx => by
        have h2 := (List.Nodup.mem_erase_iff hn).1 hx
        have h3 := hl x h2.2
        have h4 := h2.1
        omega
      rw [List.length_erase_of_mem hm] at h1
      omega
    · have := nodup_len n l hn fun x hx => by
        have h3 := hl x hx
        have h4 : x ≠ n := fun e => hm (e ▸ hx)
        omega
      omega

theorem unlisted_pos {n : Nat} {S : List Nat} (hn : S.Nodup) (hS : ∀ i ∈ S, i < n) {i : Nat} (hi : i < n) (hni : i ∉ S) : S.length < n := by
  have := nodup_len n (i :: S) (List.nodup_cons.2 ⟨hni, hn⟩) fun x hx => by
    rcases List.mem_cons.1 hx with rfl | hx
    · exact hi
    · exact hS x hx
  simp only [List.length_cons] at this
  omega

theorem go_sched (ops : Array Oper) : ∀ (fuel t : Nat) (listed : Array Bool) (S : List Nat), Listed ops listed S → S.Nodup → (∀ i ∈ S, i < ops.size) → ops.size ≤ fuel + S.length → Sched ops S (Region.linearise.go .any ops fuel t listed [])
  | 0, t, listed, S, hl, hn, hS, hf => by
    refine .nil S fun i hr => ?_
    have := unlisted_pos hn hS hr.1 hr.2.1
    omega
  | fuel + 1, t, listed, S, hl, hn, hS, hf => by
    simp only [Region.linearise.go]
    change Sched ops S (match (Region.ready .any ops listed)[t % (Region.ready .any ops listed).length]? with
      | some i => Region.linearise.go .any ops fuel (t / (Region.ready .any ops listed).length) (listed.setIfInBounds i true) [i]
      | none => [].reverse)
    cases hi : (Region.ready .any ops listed)[t % (Region.ready .any ops listed).length]? with
    | none =>
      have hnil : Region.ready .any ops listed = [] := by
        cases hr : Region.ready .any ops listed with
        | nil => rfl
        | cons x xs =>
          rw [hr] at hi
          have hlt : t % (x :: xs).length < (x :: xs).length := Nat.mod_lt _ (by simp)
          rw [List.getElem?_eq_getElem hlt] at hi
          cases hi
      refine .nil S fun i hr => ?_
      have := (ready_iff hl hS i).2 hr
      rw [hnil] at this
      cases this
    | some i =>
      simp only []
      rw [linearise_go_acc, List.reverse_singleton, List.singleton_append]
      have hr := (ready_iff hl hS i).1 (List.mem_of_getElem? hi)
      refine .cons S i _ hr (go_sched ops fuel _ _ (i :: S) (listed_set hl hr.1) (List.nodup_cons.2 ⟨hr.2.1, hn⟩) (fun j hj => ?_) (by simp; omega))
      rcases List.mem_cons.1 hj with rfl | hj
      · exact hr.1
      · exact hS j hj

theorem linearise_sched (ops : Array Oper) (t : Nat) : Sched ops [] (Region.linearise .any ops t) := by
  refine go_sched ops ops.size t _ [] ⟨by simp, fun i hi => ?_⟩ List.nodup_nil (fun i hi => by cases hi) (by simp)
  simp [Array.getD, hi]

/-! ### what a schedule is like -/
def Closed (ops : Array Oper) (S : List Nat) : Prop := ∀ i ∈ S, EdgesIn ops S i

theorem mask_fold {acc : List Nat} {i : Nat} : ∀ (es : List Edge) (s : Nat), (es.foldl (fun s e => if Region.binds .any e then s ||| (2 ^ e.on ||| acc.getD e.on 0) else s) s).testBit i = true →
    s.testBit i = true ∨ ∃ e ∈ es, Region.binds .any e = true ∧ (e.on = i ∨ (acc.getD e.on 0).testBit i = true)
  | [], s, h => .inl h
  | e :: es, s, h => by
    simp only [List.foldl_cons] at h
    rcases mask_fold es _ h with h1 | ⟨e', h1, h2⟩
    · by_cases hb : Region.binds .any e = true
      · rw [if_pos hb] at h1
        simp only [Nat.testBit_or, Bool.or_eq_true] at h1
        rcases h1 with h1 | h1 | h1
        · exact .inl h1
        · refine .inr ⟨e, by simp, hb, .inl ?_⟩
          rw [Nat.testBit_two_pow] at h1
          simpa using h1
        · exact .inr ⟨e, by simp, hb, .inr h1⟩
      · rw [if_neg hb] at h1
        exact .inl h1
    · exact .inr ⟨e', by simp [h1], h2⟩

theorem masksFrom_get : ∀ (os : List Oper) (acc : List Nat) (j : Nat), (j < acc.length → (masksFrom os acc)[j]? = acc[j]?) ∧ ∀ o, os[j]? = some o → (masksFrom os acc)[acc.length + j]? = some (maskOf ((masksFrom os acc).take (acc.length + j)) o)
  | [], acc, j => ⟨fun _ => rfl, fun o ho => by simp at ho⟩
  | o' :: os, acc, j => by
    simp only [masksFrom]
    obtain ⟨h1, _⟩ := masksFrom_get os (acc ++ [maskOf acc o']) j
    refine ⟨fun hj => ?_, fun o ho => ?_⟩
    · rw [h1 (by simp; omega), List.getElem?_append_left hj]
    · cases j with
      | zero =>
        simp only [List.getElem?_cons_zero, Option.some.injEq] at ho
        subst ho
        have h0 := (masksFrom_get os (acc ++ [maskOf acc o']) acc.length).1 (by simp)
        have ht : (masksFrom os (acc ++ [maskOf acc o'])).take acc.length = acc := by
          apply List.ext_getElem?
          intro i
          rcases Nat.lt_or_ge i acc.length with hi | hi
          · rw [List.getElem?_take_of_lt hi, (masksFrom_get os (acc ++ [maskOf acc o']) i).1 (by simp; omega), List.getElem?_append_left hi]
          · rw [List.getElem?_eq_none (by simp; omega), List.getElem?_eq_none hi]
        rw [Nat.add_zero, ht, h0]
        simp
      | succ j =>
        have h2 := (masksFrom_get os (acc ++ [maskOf acc o']) j).2 o (by simpa using ho)
        have e : (acc ++ [maskOf acc o']).length + j = acc.length + (j + 1) := by simp; omega
        rw [e] at h2
        exact h2

theorem masks_get (ops : Array Oper) {j : Nat} {o : Oper} (ho : ops[j]? = some o) : (masks ops)[j]? = some (maskOf ((masks ops).take j) o) := by
  have := (masksFrom_get ops.toList [] j).2 o (by simpa using ho)
  simpa [masks] using this

/-- Whatever an operation comes behind has been carried out. -/
theorem closed_mask {ops : Array Oper} {S : List Nat} (hc : Closed ops S) : ∀ (k : Nat) (j : Nat), j ≤ k → (j ∈ S ∨ EdgesIn ops S j) → j < ops.size → ∀ i, ((masks ops).getD j 0).testBit i = true → i ∈ S := by
  intro k
  induction k using Nat.strongRecOn with
  | _ k ih =>
    intro j hjk hj hjs i hi
    have ho : ops[j]? = some ops[j] := Array.getElem?_eq_getElem hjs
    have he : EdgesIn ops S j := hj.elim (hc j) id
    have hm := masks_get ops ho
    simp only [List.getD, hm, Option.getD_some] at hi
    rcases mask_fold _ _ hi with h0 | ⟨e, hem, hb, h1⟩
    · simp at h0
    · have hin := he _ ho e hem hb
      rcases h1 with rfl | h1
      · exact hin
      · have hlt : e.on < j := by
          rcases Nat.lt_or_ge e.on j with h | h
          · exact h
          · simp [List.getD, List.getElem?_take, Nat.not_lt.2 h] at h1
        have h2 : ((masks ops).getD e.on 0).testBit i = true := by
          simp only [List.getD] at h1 ⊢
          rw [List.getElem?_take_of_lt hlt] at h1
          exact h1
        exact ih e.on (by omega) e.on (Nat.le_refl _) (.inl hin) (by omega) i h2

theorem sched_props {ops : Array Oper} (hed : edgesOk ops = true) : ∀ {S l : List Nat}, Sched ops S l → Closed ops S →
    l.Nodup ∧ (∀ x ∈ l, x ∉ S ∧ x < ops.size) ∧ (∀ i, i < ops.size → i ∈ S ∨ i ∈ l) ∧ ∀ l1 x l2, l = l1 ++ x :: l2 → ∀ y, ((masks ops).getD x 0).testBit y = true → y ∈ S ∨ y ∈ l1 := by
  intro S l hs
  induction hs with
  | nil S hno =>
    intro hc
    refine ⟨List.nodup_nil, (fun x hx => by cases hx), fun i hi => ?_, (fun l1 x l2 e => by simp at e)⟩
    have key : ∀ k i, i ≤ k → i < ops.size → i ∈ S := by
      intro k
      induction k using Nat.strongRecOn with
      | _ k ih =>
        intro i hik his
        by_cases hm : i ∈ S
        · exact hm
        · refine (hno i ⟨his, hm, fun o ho e hem hb => ?_⟩).elim
          unfold edgesOk at hed
          have h1 := (List.all_eq_true.1 hed) i (List.mem_range.2 his)
          rw [ho] at h1
          have h2 := (List.all_eq_true.1 h1) e hem
          rw [hb] at h2
          have h3 : e.on < i := by simpa using h2
          exact ih e.on (by omega) e.on (Nat.le_refl _) (by omega)
    exact .inl (key i i (Nat.le_refl _) hi)
  | cons S i l hr hs ih =>
    intro hc
    have hc' : Closed ops (i :: S) := fun j hj o ho e hem hb => by
      rcases List.mem_cons.1 hj with rfl | hj
      · exact List.mem_cons_of_mem _ (hr.2.2 o ho e hem hb)
      · exact List.mem_cons_of_mem _ (hc j hj o ho e hem hb)
    obtain ⟨h1, h2, h3, h4⟩ := ih hc'
    refine ⟨List.nodup_cons.2 ⟨fun hm => (h2 i hm).1 (by simp), h1⟩, fun x hx => ?_, fun j hj => ?_, fun l1 x l2 e y hy => ?_⟩
    · rcases List.mem_cons.1 hx with rfl | hx
      · exact ⟨hr.2.1, hr.1⟩
      · exact ⟨fun hm => (h2 x hx).1 (List.mem_cons_of_mem _ hm), (h2 x hx).2⟩
    · rcases h3 j hj with h | h
      · rcases List.mem_cons.1 h with rfl | h
        · exact .inr (by simp)
        · exact .inl h
      · exact .inr (List.mem_cons_of_mem _ h)
    · cases l1 with
      | nil =>
        simp only [List.nil_append, List.cons.injEq] at e
        obtain ⟨rfl, rfl⟩ := e
        exact .inl (closed_mask hc i i (Nat.le_refl _) (.inr hr.2.2) hr.1 y hy)
      | cons z l1 =>
        simp only [List.cons_append, List.cons.injEq] at e
        obtain ⟨rfl, rfl⟩ := e
        rcases h4 l1 x l2 rfl y hy with h | h
        · rcases List.mem_cons.1 h with rfl | h
          · exact .inr (by simp)
          · exact .inl h
        · exact .inr (List.mem_cons_of_mem _ h)

/-- The forced part of a schedule stands at its end, in order. -/
theorem forced_tail {n : Nat} : ∀ (k : Nat) (l : List Nat), l.Nodup → (∀ i, i ∈ l ↔ i < n + k) → (∀ l1 x l2, l = l1 ++ x :: l2 → n ≤ x → ∀ y, y < x → y ∈ l1) → ∃ lp, l = lp ++ List.range' n k ∧ lp.Nodup ∧ ∀ i, i ∈ lp ↔ i < n
  | 0, l, hn, hm, hf => ⟨l, by simp, hn, by simpa using hm⟩
  | k + 1, l, hn, hm, hf => by
    have hlast : n + k ∈ l := (hm _).2 (by omega)
    obtain ⟨l1, l2, e⟩ := List.append_of_mem hlast
    have hall := hf l1 (n + k) l2 e (by omega)
    have hnil : l2 = [] := by
      cases l2 with
      | nil => rfl
      | cons z l2 =>
        have hz : z ∈ l := by rw [e]; simp
        have hzl := (hm z).1 hz
        rw [e] at hn
        rw [List.nodup_append] at hn
        obtain ⟨_, hn2, hn3⟩ := hn
        by_cases hzk : z = n + k
        · subst hzk; simp at hn2
        · exact (hn3 z (hall z (by omega)) z (by simp) rfl).elim
    subst hnil
    have hn' := hn
    rw [e, List.nodup_append] at hn'
    obtain ⟨lp, h1, h2, h3⟩ := forced_tail (n := n) k l1 hn'.1 (fun i => by
      constructor
      · intro hi
        have h4 := (hm i).1 (by rw [e]; simp [hi])
        have h5 : i ≠ n + k := fun h => hn'.2.2 i hi (n + k) (by simp) h
        omega
      · intro hi; exact hall i (by omega)) (fun a x b e2 hx y hy => by
        exact hf a x (b ++ [n + k]) (by rw [e, e2]; simp) hx y hy)
    refine ⟨lp, ?_, h2, h3⟩
    rw [e, h1, List.range'_concat, List.append_assoc]
    simp

/-- Steps that commute may be sorted. -/
theorem move_last {σ : Type} (f : Nat → σ → Option σ) (x : Nat) : ∀ (l : List Nat), (∀ y ∈ l, ∀ s, (f x s).bind (f y) = (f y s).bind (f x)) → ∀ s, (f x s).bind (fun s' => l.foldlM (fun s i => f i s) s') = (l.foldlM (fun s i => f i s) s).bind (f x)
  | [], _, s => by simp
  | y :: l, hc, s => by
    have ih := move_last f x l fun z hz => hc z (by simp [hz])
    simp only [List.foldlM_cons]
    have h1 := hc y (by simp) s
    cases hy : f y s with
    | none =>
      rw [hy] at h1
      cases hx : f x s with
      | none => rfl
      | some s1 => rw [hx] at h1; simp only [Option.bind_some, Option.bind_none] at h1; simp [h1]
    | some s2 =>
      rw [hy] at h1
      simp only [Option.bind_some] at h1
      have h2 := ih s2
      rw [← h1] at h2
      show (f x s).bind (fun s' => (f y s').bind fun s'' => l.foldlM (fun s i => f i s) s'') = ((some s2).bind fun s'' => l.foldlM (fun s i => f i s) s'').bind (f x)
      rw [← Option.bind_assoc, h2]
      rfl

theorem sort_run {σ : Type} (f : Nat → σ → Option σ) : ∀ (n : Nat) (l : List Nat), l.Nodup → (∀ i, i ∈ l ↔ i < n) → (∀ l1 x l2 y, l = l1 ++ x :: l2 → y ∈ l2 → y < x → ∀ s, (f x s).bind (f y) = (f y s).bind (f x)) →
    ∀ s, l.foldlM (fun s i => f i s) s = (List.range n).foldlM (fun s i => f i s) s
  | 0, l, hn, hm, hc, s => by
    cases l with
    | nil => rfl
    | cons x xs => exact absurd ((hm x).1 (by simp)) (by omega)
  | n + 1, l, hn, hm, hc, s => by
    have hlast : n ∈ l := (hm _).2 (by omega)
    obtain ⟨l1, l2, e⟩ := List.append_of_mem hlast
    have hn' := hn
    rw [e, List.nodup_append, List.nodup_cons] at hn'
    obtain ⟨n1, ⟨n2, n3⟩, n4⟩ := hn'
    have hm2 : ∀ i, i ∈ l1 ++ l2 ↔ i < n := fun i => by
      constructor
      · intro hi
        have h5 := (hm i).1 (by rw [e]; simp only [List.mem_append, List.mem_cons]; rcases List.mem_append.1 hi with h | h; exact .inl h; exact .inr (.inr h))
        have h6 : i ≠ n := fun h => by
          subst h
          rcases List.mem_append.1 hi with h | h
          · exact n4 i h i (by simp) rfl
          · exact n2 h
        omega
      · intro hi
        have h5 := (hm i).2 (by omega)
        rw [e] at h5
        simp only [List.mem_append, List.mem_cons] at h5 ⊢
        rcases h5 with h5 | h5 | h5
        · exact .inl h5
        · omega
        · exact .inr h5
    have ih := sort_run f n (l1 ++ l2) (List.nodup_append.2 ⟨n1, n3, fun a ha b hb => n4 a ha b (by simp [hb])⟩) hm2 (fun a x b y e2 hy hlt => by
      rcases List.append_eq_append_iff.1 e2 with ⟨a', h1, h2⟩ | ⟨c', h1, h2⟩
      · -- l1 ++ a' = a, l2 = a' ++ x :: b
        exact hc (l1 ++ n :: a') x b y (by rw [e, h2]; simp) hy hlt
      · cases c' with
        | nil =>
          simp only [List.append_nil] at h1
          simp only [List.nil_append] at h2
          exact hc (l1 ++ [n]) x b y (by rw [e, ← h2]; simp) hy hlt
        | cons z c' =>
          simp only [List.cons_append, List.cons.injEq] at h2
          obtain ⟨rfl, h2⟩ := h2
          exact hc a x (c' ++ n :: l2) y (by rw [e, h1]; simp) (by rw [h2] at hy; simp only [List.mem_append, List.mem_cons] at hy ⊢; rcases hy with h | h; exact .inl h; exact .inr (.inr h)) hlt) s
    have hmv := fun s => move_last f n l2 (fun y hy s => hc l1 n l2 y e hy (by
      have h5 := (hm y).1 (by rw [e]; simp [hy])
      have h6 : y ≠ n := fun h => n2 (h ▸ hy)
      omega) s) s
    rw [e, List.range_succ, List.foldlM_append, List.foldlM_append, ← ih, List.foldlM_append]
    show (l1.foldlM (fun s i => f i s) s).bind _ = ((l1.foldlM (fun s i => f i s) s).bind _).bind _
    cases l1.foldlM (fun s i => f i s) s with
    | none => rfl
    | some s1 =>
      simp only [Option.bind_some, List.foldlM_cons]
      have := hmv s1
      show (f n s1).bind (fun s' => l2.foldlM (fun s i => f i s) s') = (l2.foldlM (fun s i => f i s) s1).bind (fun s' => (f n s').bind fun s'' => List.foldlM (fun s i => f i s) s'' [])
      rw [this]
      congr 1
      funext s'
      cases f n s' <;> rfl

end Ab
