/- Receiver: what pieces of the same data lead to. -/
import Derived.Test.YthgemjameiibpaaDoorReL2
set_option linter.unusedVariables false
set_option linter.unusedSimpArgs false
namespace Ab
open Go

/-- A valid data segment of session 5 with bytes of D at its place. -/
def PieceOf (D : ByteArray) (x : Seg) : Prop := chkG x = 0 ∧ x.kind = 1 ∧ x.ses = 5 ∧ x.tot = D.size ∧ ∀ i, i < x.data.size → (bl x.data).getD i 0 = (bl D).getD (x.off.toNat + i) 0
def Cov (l : List Seg) (t : Int) : Prop := ∃ x ∈ l, x.off ≤ t ∧ t < x.off + x.data.size
def R5 : Rcv := ⟨5, -1, [], ByteArray.mk #[]⟩
def hearAll (r : Rcv) (l : List Seg) : Rcv := l.foldl (fun r x => (hear r x).1) r
/-- What a receiver holds that heard pieces of D. -/
structure Hd (D : ByteArray) (r : Rcv) (l : List Seg) : Prop where
  ok : chkR r = 0
  ses : r.ses = 5
  tot : r.tot = if l = [] then -1 else (D.size : Int)
  mem : ∀ t, memS t r.known ↔ Cov l t
  get : ∀ i : Nat, Cov l (i : Int) → (bl r.data).getD i 0 = (bl D).getD i 0
theorem st_start (D : ByteArray) : Hd D R5 [] := ⟨by decide, rfl, rfl, fun t => ⟨fun h => h.elim, fun ⟨x, h, _⟩ => by cases h⟩, fun i ⟨x, h, _⟩ => by cases h⟩
theorem cov_snoc {l : List Seg} {x : Seg} {t : Int} : Cov (l ++ [x]) t ↔ Cov l t ∨ (x.off ≤ t ∧ t < x.off + x.data.size) := by
  unfold Cov
  constructor
  · rintro ⟨y, hy, h⟩
    rcases List.mem_append.1 hy with hy | hy
    · exact .inl ⟨y, hy, h⟩
    · simp only [List.mem_singleton] at hy
      subst hy
      exact .inr h
  · rintro (⟨y, hy, h⟩ | h)
    · exact ⟨y, List.mem_append_left _ hy, h⟩
    · exact ⟨x, by simp, h⟩
theorem piece_bounds {D : ByteArray} {x : Seg} (hx : PieceOf D x) : 0 ≤ x.off ∧ 1 ≤ x.data.size ∧ x.off + x.data.size ≤ D.size ∧ x.data.size ≤ 16 := by
  obtain ⟨g1, g2, g3, g4, g5, g6, g7⟩ := seg_data hx.1 hx.2.1
  have := hx.2.2.2.1
  omega
theorem cov_in {D : ByteArray} {l : List Seg} (hl : ∀ x ∈ l, PieceOf D x) {t : Int} (h : Cov l t) : 0 ≤ t ∧ t < D.size := by
  obtain ⟨x, hx, h1, h2⟩ := h
  have := piece_bounds (hl x hx)
  omega
theorem st_suits {D : ByteArray} {r : Rcv} {l : List Seg} {x : Seg} (h : Hd D r l) (hl : ∀ x ∈ l, PieceOf D x) (hx : PieceOf D x) (hD : D.size ≤ 900) : suits r x = true := by
  obtain ⟨c1, c2, c3, c4⟩ := chkR_zero h.ok
  obtain ⟨b1, b2, b3, b4⟩ := piece_bounds hx
  refine suits_iff.2 ⟨hx.2.1, by rw [hx.2.2.1, h.ses], ?_, fun i hi hm => ?_, ?_⟩
  · rw [h.tot, hx.2.2.2.1]
    by_cases hn : l = []
    · left; rw [if_pos hn]
    · right; rw [if_neg hn]
  · have := h.get (x.off.toNat + i) (by rw [show ((x.off.toNat + i : Nat) : Int) = x.off + (i : Int) by omega]; exact (h.mem _).1 hm)
    rw [this, hx.2.2.2.2 i hi]
  · have hs : chkL [sp x] = 0 := by
      rw [chkL_iff]
      refine ⟨by simp, ⟨?_, ?_, trivial⟩, fun y hy => ?_⟩
      · show -1152921504606846977 < x.off; omega
      · show x.off < x.off + x.data.size; omega
      · simp only [List.mem_singleton] at hy
        subst hy
        show x.off + x.data.size ≤ _
        omega
    obtain ⟨u1, u2⟩ := uni_spec ((chkL_iff _).1 c2.1).2.1 ((chkL_iff _).1 hs).2.1
    have hin : ∀ t, memS t (uni r.known [sp x]) → 0 ≤ t ∧ t < D.size := fun t m => by
      rcases (u2 t).1 m with m | m
      · exact cov_in hl ((h.mem t).1 m)
      · rw [mem_sp] at m; omega
    have hw := mem_within u1 hin
    have hlen : ((uni r.known [sp x]).length : Int) ≤ D.size - (-1) := by
      refine canon_len (b := -1) ?_ (by omega) (fun y hy => (hw y hy).2)
      cases hu : uni r.known [sp x] with
      | nil => trivial
      | cons y l' =>
        rw [hu] at u1 hw
        exact ⟨by have := (hw y List.mem_cons_self).1; omega, u1.2.1, u1.2.2⟩
    unfold unionE
    rw [if_pos ⟨c2.1, hs⟩, if_neg (by omega)]
theorem st_next {D : ByteArray} {r : Rcv} {l : List Seg} {x : Seg} (h : Hd D r l) (hl : ∀ x ∈ l, PieceOf D x) (hx : PieceOf D x) (hD : D.size ≤ 900) : Hd D (nextR r x) (l ++ [x]) := by
  have hs := st_suits h hl hx hD
  obtain ⟨b1, b2, b3, b4⟩ := piece_bounds hx
  refine ⟨next_valid h.ok hx.1 hs, h.ses, ?_, fun t => ?_, fun i hi => ?_⟩
  · rw [if_neg (by simp)]
    exact hx.2.2.2.1
  · rw [next_mem hs, h.mem, cov_snoc]
  · rw [next_get h.ok hx.1 hs]
    split
    · rename_i hr
      rw [hx.2.2.2.2 _ (by omega), show x.off.toNat + (i - x.off.toNat) = i by omega]
    · rename_i hr
      rcases cov_snoc.1 hi with hc | hc
      · exact h.get i hc
      · omega
theorem st_hear {D : ByteArray} {r : Rcv} {l : List Seg} {x : Seg} (h : Hd D r l) (hl : ∀ x ∈ l, PieceOf D x) (hx : PieceOf D x) (hD : D.size ≤ 900) : hear r x = (nextR r x, if x.chk = true then [claimR r x] else [], 0) := by
  rw [hear_ok h.ok hx.1, if_pos (st_suits h hl hx hD)]
theorem st_all {D : ByteArray} (hD : D.size ≤ 900) : ∀ (k l : List Seg) (r : Rcv), Hd D r l → (∀ x ∈ l, PieceOf D x) → (∀ x ∈ k, PieceOf D x) → Hd D (hearAll r k) (l ++ k)
  | [], l, r, h, hl, hk => by simpa [hearAll] using h
  | x :: k, l, r, h, hl, hk => by
    have hx := hk x List.mem_cons_self
    have h1 := st_next h hl hx hD
    have := st_all hD k (l ++ [x]) (nextR r x) h1 (fun y hy => by
      rcases List.mem_append.1 hy with hy | hy
      · exact hl y hy
      · simp only [List.mem_singleton] at hy; subst hy; exact hx) (fun y hy => hk y (List.mem_cons_of_mem _ hy))
    unfold hearAll at this ⊢
    rw [List.foldl_cons, st_hear h hl hx hD]
    simpa using this
theorem st_size {D : ByteArray} {r : Rcv} {l : List Seg} (h : Hd D r l) : r.data.size = if l = [] then 0 else D.size := by
  obtain ⟨c1, c2, c3, c4⟩ := chkR_zero h.ok
  have ht := h.tot
  unfold sizR at c3
  by_cases hn : l = []
  · rw [if_pos hn] at ht ⊢
    rw [ht, if_pos (by decide)] at c3
    omega
  · rw [if_neg hn] at ht ⊢
    rw [ht, if_neg (by omega)] at c3
    omega
/-- The same places covered: the same receiver. -/
theorem st_unique {D : ByteArray} {r r' : Rcv} {l l' : List Seg} (h : Hd D r l) (h' : Hd D r' l') (he : l = [] ↔ l' = []) (hc : ∀ t, Cov l t ↔ Cov l' t) : r = r' := by
  obtain ⟨c1, c2, c3, c4⟩ := chkR_zero h.ok
  obtain ⟨d1, d2, d3, d4⟩ := chkR_zero h'.ok
  have e1 : r.ses = r'.ses := by rw [h.ses, h'.ses]
  have e2 : r.tot = r'.tot := by
    rw [h.tot, h'.tot]
    by_cases hn : l = []
    · rw [if_pos hn, if_pos (he.1 hn)]
    · rw [if_neg hn, if_neg (fun x => hn (he.2 x))]
  have e3 : r.known = r'.known := canon_unique ((chkL_iff _).1 c2.1).2.1 ((chkL_iff _).1 d2.1).2.1 fun t => by rw [h.mem, h'.mem, hc]
  have e4 : r.data = r'.data := by
    refine bl_get_ext (by have := c3; have := d3; rw [e2] at c3; omega) fun i hi => ?_
    by_cases hm : memS i r.known
    · have hcv := (h.mem i).1 hm
      rw [h.get i hcv, h'.get i ((hc _).1 hcv)]
    · have z1 : (bl r.data).getD i 0 = 0 := Classical.byContradiction fun hz => hm (c4 i hi hz)
      have z2 : (bl r'.data).getD i 0 = 0 := Classical.byContradiction fun hz => hm (by
        rw [e3]
        refine d4 i ?_ hz
        rw [← bl_len]
        rcases Nat.lt_or_ge i (bl r'.data).length with q | q
        · exact q
        · exact (hz (getD_out q)).elim)
      rw [z1, z2]
  cases r; cases r'
  simp only at e1 e2 e3 e4
  rw [e1, e2, e3, e4]
theorem hearAll_valid : ∀ (l : List Seg) (r : Rcv), chkR r = 0 → (∀ x ∈ l, chkG x = 0) → chkR (hearAll r l) = 0
  | [], r, h, _ => h
  | x :: l, r, h, hl => by
    unfold hearAll
    rw [List.foldl_cons]
    exact hearAll_valid l _ (hear_valid h (hl x List.mem_cons_self)) fun y hy => hl y (List.mem_cons_of_mem _ hy)
theorem hearAll_snoc (r : Rcv) (l : List Seg) (x : Seg) : hearAll r (l ++ [x]) = (hear (hearAll r l) x).1 := by simp [hearAll]
theorem take_snoc {α : Type} {l : List α} {i : Nat} {x : α} (h : l[i]? = some x) : l.take (i + 1) = l.take i ++ [x] := by
  rw [List.take_add_one, h]; rfl
theorem s29 (l : List Seg) (hl : ∀ x ∈ l, chkG x = 0) (hlen : l.length ≤ 1000000) : Runs C 29 [tI 5, .sl 8 (l.map Seg.enc)] ((hearAll R5 l).enc ++ [.bool true]) := by
  refine Runs.of (fun n => e29 n _ _) ?_
  have hn : newR 5 = (R5, 0) := rfl
  refine Ev.rw (s11 5) (fun n h => by simp only [hn, R5, Rcv.enc, List.cons_append, List.nil_append, List.map_nil] at h; simp only [h, vv, reduceCtorEq, Nat.reduceAdd, Nat.reduceEqDiff] <;> rfl) ?_
  refine loop_overQ (fun (r : Rcv) => r.enc ++ [Tree.bool true]) l (fun i (r : Rcv) => (([.t (tI 0), .t (tI i)], [.box [.t (tI 0), .t (tI 0), .t (.sl 2 []), .t (.str (ByteArray.mk #[]))], .box [.t (tI r.ses), .t (tI r.tot), .t (.sl 2 (r.known.map Span.enc)), .t (.str r.data)]]) : List AV × Heap)) (fun _ r x => .next (hear r x).1) (fun r => r) (fun _ r => chkR r = 0) R5 rfl (by decide) (runL_fold _ _ _ _ _)
    (fun i r x hx hI => ?_) (fun i r x r' hx hI h => ?_) (fun r hI => Ev.of fun n again => ?_)
  · have hi := lt_of_some hx
    have hxv := hl x (List.mem_of_getElem? hx)
    have hk := (keeps_tot hI hxv).2.2.2.2
    refine (s13 r x).mono fun n h again => ?_
    generalize hear r x = q at *
    simp only [Rcv.enc, Seg.enc, List.cons_append, List.nil_append, hearT, hk] at h
    simp only [L29_1, vv, reduceCtorEq, Nat.reduceAdd, Nat.reduceEqDiff, hx, Seg.enc, (show (i : Int) < l.length by omega), w64_succ (show i < 4611686018427387904 by omega), bne_self_eq_false, h, Rd.go_next]
  · simp only [Rd.next.injEq] at h
    subst h
    exact hear_valid hI (hl x (List.mem_of_getElem? hx))
  · simp only [L29_1, vv, reduceCtorEq, Nat.reduceAdd, Nat.reduceEqDiff, Int.lt_irrefl, beq_self_eq_true]
    rfl
/-- The segment that a number selects. -/
def cutSeg (D : ByteArray) (n : Nat) : Seg := ⟨1, 5, if n % 3 = 0 then 1 + n else 0, (n % D.size : Nat), D.size, decide (n % 3 = 0), D.extract (n % D.size) (n % D.size + min (1 + n / 256 % 16) (D.size - n % D.size)), []⟩
theorem cut_piece {D : ByteArray} {n : Nat} (hD : 1 ≤ D.size ∧ D.size ≤ 900) (hn : n < 65536) : PieceOf D (cutSeg D n) := by
  have hm : n % D.size < D.size := Nat.mod_lt _ (by omega)
  have hb : bl (cutSeg D n).data = ((bl D).drop (n % D.size)).take (min (1 + n / 256 % 16) (D.size - n % D.size)) := by
    show bl (D.extract _ _) = _
    rw [bl_extract, Nat.add_sub_cancel_left]
  have hsz : (cutSeg D n).data.size = min (1 + n / 256 % 16) (D.size - n % D.size) := by
    rw [← bl_len, hb]
    simp only [List.length_take, List.length_drop, bl_len]
    omega
  have hm16 : n / 256 % 16 < 16 := Nat.mod_lt _ (by omega)
  refine ⟨?_, rfl, rfl, rfl, fun i hi => ?_⟩
  · have a1 : SegNum (cutSeg D n) := by
      unfold SegNum
      simp only [cutSeg]
      refine ⟨by omega, fun h => by omega, fun h => by omega, fun _ => ?_⟩
      by_cases h3 : n % 3 = 0 <;> simp [h3] <;> omega
    have a2 : SegCon (cutSeg D n) := by
      unfold SegCon
      rw [hsz]
      simp only [cutSeg]
      refine ⟨fun h => by omega, fun h => by omega, fun _ => ?_⟩
      simp
      omega
    unfold chkG
    rw [if_neg (not_not_intro (by show (1 : Int) ≤ 1 ∧ (1 : Int) ≤ 3; decide)), if_neg (not_not_intro a1), if_neg (not_not_intro a2)]
  · rw [hb]
    rw [hsz] at hi
    show _ = (bl D).getD ((((n % D.size : Nat) : Int)).toNat + i) 0
    rw [Int.toNat_natCast]
    simp [List.getD_eq_getElem?_getD, List.getElem?_take, hi, List.getElem?_drop]
end Ab
