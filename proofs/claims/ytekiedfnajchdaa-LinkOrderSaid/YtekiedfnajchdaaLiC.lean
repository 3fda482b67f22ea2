/- Link: the law Delays; play. -/
import Derived.Test.YtekiedfnajchdaaLiB
set_option linter.unusedVariables false
set_option linter.unusedSimpArgs false
namespace Ab
open Go

theorem fate_mem {n r d : Int} (hr : 1 ≤ r) (h : d ∈ fate n r) : r ≤ d ∧ d ≤ 2 * r := by
  have h1 := Int.emod_nonneg (n / 8) (show r ≠ 0 by omega)
  have h2 := Int.emod_lt_of_pos (n / 8) (show 0 < r by omega)
  unfold fate at h
  split at h
  · simp at h; omega
  · split at h
    · simp at h; omega
    · split at h
      · simp at h; omega
      · simp at h
theorem fate_asc {n r : Int} (hr : 1 ≤ r) : (fate n r).Pairwise fun a b => a < b := by
  have h1 := Int.emod_nonneg (n / 8) (show r ≠ 0 by omega)
  unfold fate
  split
  · simp
  · split
    · simp; omega
    · split <;> simp
theorem fate_per (n r : Int) (hr : 1 ≤ r) : fate (n + 8 * r) r = fate n r := by
  have h1 : (n + 8 * r) % 8 = n % 8 := by omega
  have h2 : (n + 8 * r) / 8 % r = n / 8 % r := by
    rw [show (n + 8 * r) / 8 = n / 8 + r by omega, Int.add_emod_right]
  unfold fate
  rw [h1, h2]
theorem fate_len (n r : Int) : (fate n r).length ≤ 2 := by
  unfold fate
  split
  · simp
  · split
    · simp
    · split <;> simp
theorem mod8 (n : Int) : Int.tmod (Int.tmod n 8 + 8) 8 = n % 8 := by
  have ht : Int.tmod n 8 = if 0 ≤ n ∨ n % 8 = 0 then n % 8 else n % 8 - 8 := by
    rw [Int.tmod_eq_emod]
    have hdv : (8 : Int) ∣ n ↔ n % 8 = 0 := Int.dvd_iff_emod_eq_zero
    simp only [hdv]
    split
    · omega
    · simp
  rw [ht, Int.tmod_eq_emod_of_nonneg (by split <;> omega)]
  split <;> omega
/-! ### play -/
structure Stp where
  after : Int
  fate : Int
def Stp.enc (x : Stp) : List Tree := [.int .u8 x.after, .int .u8 x.fate]
def Stp.ok (x : Stp) : Prop := (0 ≤ x.after ∧ x.after ≤ 255) ∧ (0 ≤ x.fate ∧ x.fate ≤ 255)
structure PS where
  at_ : Int
  c : Chan
  sent : List Int
def stepP (s : PS) (x : Stp) : PS := ⟨s.at_ + x.after, sendC s.c (s.at_ + x.after) s.c.sent (fate x.fate s.c.rng), s.sent ++ [s.at_ + x.after]⟩
def startP (r : Int) : PS := ⟨0, ⟨r, [], 0, 0⟩, []⟩
def playS (r : Int) (l : List Stp) : PS := l.foldl stepP (startP r)

def lexF (a b : Frame) : Prop := a.arr < b.arr ∨ a.arr = b.arr ∧ a.num < b.num
theorem sendF_len (a n s : Int) : ∀ (ds : List Int) (fs : List Frame), (sendF a n s ds fs).length = fs.length + ds.length
  | [], fs => rfl
  | d :: ds, fs => by
    show (sendF a n s ds (insF a n s fs d)).length = _
    rw [sendF_len a n s ds, insF_len]
    simp only [List.length_cons]
    omega
theorem sendF_mem (a n s : Int) (f : Frame) : ∀ (ds : List Int) (fs : List Frame), f ∈ sendF a n s ds fs ↔ f ∈ fs ∨ ∃ d ∈ ds, f = ⟨a + d, n, s⟩
  | [], fs => by simp [sendF]
  | d :: ds, fs => by
    show f ∈ sendF a n s ds (insF a n s fs d) ↔ _
    rw [sendF_mem a n s f ds, insF, insB_mem]
    simp only [List.mem_cons, exists_eq_or_imp]
    constructor
    · rintro ((h | h) | h)
      · exact .inr (.inl h)
      · exact .inl h
      · exact .inr (.inr h)
    · rintro (h | h | h)
      · exact .inl (.inr h)
      · exact .inl (.inl h)
      · exact .inr h
theorem sendF_srt (a n s : Int) : ∀ (ds : List Int) (fs : List Frame), (fs.Pairwise fun a b => a.arr ≤ b.arr) → (sendF a n s ds fs).Pairwise fun a b => a.arr ≤ b.arr
  | [], fs, h => h
  | d :: ds, fs, h => sendF_srt a n s ds _ (insF_srt h)
theorem insF_lex {a n s : Int} {fs : List Frame} {d : Int} (h : fs.Pairwise lexF) (hn : ∀ f ∈ fs, f.arr = a + d → f.num < n) : (insF a n s fs d).Pairwise lexF := by
  unfold insF
  refine insB_pairwise h (fun x _ hg => ?_) (fun x hx hg => ?_) (fun x _ y _ hr hg => ?_)
  · simp only [decide_eq_true_eq] at hg; simp only [lexF]; omega
  · simp only [decide_eq_false_iff_not] at hg
    have := hn x hx
    simp only [lexF]; omega
  · simp only [decide_eq_true_eq, lexF] at *; omega
theorem sendF_lex (a n s : Int) : ∀ (ds : List Int) (fs : List Frame), ds.Pairwise (fun a b => a < b) → (∀ f ∈ fs, ∀ d ∈ ds, f.arr = a + d → f.num < n) → fs.Pairwise lexF → (sendF a n s ds fs).Pairwise lexF
  | [], fs, _, _, h => h
  | d :: ds, fs, hp, hn, h => by
    rw [List.pairwise_cons] at hp
    refine sendF_lex a n s ds _ hp.2 (fun f hf e he hfe => ?_) (insF_lex h fun f hf => hn f hf d (by simp))
    rcases (insB_mem _ _ _ _).1 hf with rfl | hf
    · have := hp.1 e he
      simp only at hfe
      omega
    · exact hn f hf e (by simp [he]) hfe
theorem good_send {c : Chan} (hc : GoodC c) {at_ ser : Int} (ha : 0 ≤ at_ ∧ at_ ≤ 1099511627776) {ds : List Int} (hd : ∀ d ∈ ds, c.rng ≤ d ∧ d ≤ 2 * c.rng) (hl : c.frames.length + ds.length ≤ 10000) (hs : c.sent < 1152921504606846976) : GoodC (sendC c at_ ser ds) where
  rng := hc.rng
  lost := by
    have := hc.lost
    simp only [sendC, lostBy]
    split <;> omega
  sent := by simp only [sendC]; omega
  len := by simp only [sendC, sendF_len]; omega
  frm := fun f hf => by
    have hr := hc.rng
    have hlo := hc.lost
    simp only [sendC] at hf ⊢
    rcases (sendF_mem _ _ _ _ _ _).1 hf with h | ⟨d, hd1, rfl⟩
    · have := hc.frm f h; omega
    · have := hd d hd1
      simp only
      omega
  srt := sendF_srt _ _ _ _ _ hc.srt
/-! ### the example -/
def cs : Nat → Chan
  | 0 => ⟨5, [], 0, 0⟩
  | i + 1 => sendC (cs i) (10 + i) i (fate ([6, 0, 4].getD i 0) 5)
theorem cs_ok : ∀ i, i ≤ 3 → GoodC (cs i) ∧ (cs i).rng = 5 ∧ (cs i).sent = i ∧ (cs i).frames.length ≤ 2 * i
  | 0, _ => ⟨⟨by simp [cs], by simp [cs], by simp [cs], by simp [cs], by simp [cs], by simp [cs]⟩, rfl, rfl, by simp [cs]⟩
  | i + 1, hi => by
    obtain ⟨h1, h2, h3, h4⟩ := cs_ok i (by omega)
    have hf := fate_len ([6, 0, 4].getD i 0) 5
    refine ⟨good_send h1 (by omega) (fun d hd => by have := fate_mem (by omega) hd; omega) (by omega) (by omega), h2, ?_, ?_⟩
    · simp only [cs, sendC]; omega
    · simp only [cs, sendC, sendF_len]; omega
def f4 : List Frame := [⟨16, 0, 0⟩, ⟨16, 1, 1⟩, ⟨17, 2, 2⟩, ⟨18, 2, 2⟩]
theorem cs3 : (cs 3).frames = f4 := by decide
theorem cs3l : (cs 3).lost = 1 := by decide
def dropC (c : Chan) (k : Nat) : Chan := { c with frames := c.frames.drop k }
theorem good_drop {c : Chan} (hc : GoodC c) (k : Nat) : GoodC (dropC c k) where
  rng := hc.rng
  lost := hc.lost
  sent := hc.sent
  len := by have := hc.len; simp only [dropC, List.length_drop]; omega
  frm := fun f hf => hc.frm f (List.mem_of_mem_drop hf)
  srt := hc.srt.sublist (List.drop_sublist _ _)
theorem s9 : Runs C 9 [] [.bool true] := by
  refine Runs.of (fun n => e9 n) ?_
  refine Ev.rw (T' := ?TT) (s16 5 (by omega)) (fun k h => ?g1) ?g2
  case g1 =>
    simp only [h, vI_mk, vB_mk, vS_mk, vL_mk, sVer_mk, sOff_mk, sLen_mk, oVer_mk, oEs_mk, cI_mk, cB_mk, cS_mk, cL_mk, cVer_mk, cOff_mk, cLen_mk, gI_zero, gI_succ, gB_zero, gB_succ, gS_zero, gS_succ, gL_zero, gL_succ, okI_zero, okI_succ, okB_zero, okB_succ, okS_zero, okS_succ, okL_zero, okL_succ, isIntT_int, isBoolT_bool, isStrT_str, isSlT_sl, intOf_int, boolOf_bool, strOf_str, slOf_sl, treeOf_t, srVer_sref, srOff_sref, srLen_sref, ver_row, esOf_row, cellOf_box, aI_mk, aB_mk, aS_mk, aL_mk, aggOf_agg, join_eq, List.getD_cons_zero, List.getD_cons_succ, decide_true, decide_false, cnd_true, cnd_false, true_and, and_true, false_and, and_false, Option.bind_some, Option.bind_none, List.length_cons, List.length_nil, List.length_map, List.getElem?_map, Option.map_some, Option.map_none, Int.toNat_natCast, reduceCtorEq, eq_self, if_true, if_false, Nat.zero_add, Nat.reduceAdd, Nat.reduceEqDiff, Int.natCast_nonneg, List.drop_zero, or_true, true_or, or_false, false_or, Bool.not_true, Bool.not_false, Bool.false_eq_true, decide_eq_true_eq, ge_iff_le, gt_iff_lt]
    rfl
  case g2 =>
    refine loop_overQ (fun r => [Tree.bool r]) ([6, 0, 4] : List Int) (fun i (_ : Unit) => (([.t (tI 0), .t (tI i)], [.box [.t (tI 5), .t (.sl 10 ((cs i).frames.map Frame.enc)), .t (tI (cs i).sent), .t (tI (cs i).lost)]]) : List AV × Heap)) (fun i _ x => .next ()) (fun _ => true) (fun i _ => True) () rfl trivial (runL_fold (fun _ _ => ()) (fun _ => true) 0 _ ())
      (fun i s x hx hI => ?_) (fun _ _ _ _ _ _ _ => trivial) (fun s hI => ?_)
    · have hi := lt_of_some hx
      simp only [List.length_cons, List.length_nil] at hi
      obtain ⟨g1, g2, g3, g4⟩ := cs_ok i (by omega)
      have hx2 : ([6, 0, 4] : List Int).getD i 0 = x := by rw [List.getD_eq_getElem?_getD, hx]; rfl
      have hx3 : ([[tI 6], [tI 0], [tI 4]] : List (List Tree))[i]? = some [tI x] := by
        rw [show ([[tI 6], [tI 0], [tI 4]] : List (List Tree)) = ([6, 0, 4] : List Int).map encI from rfl, List.getElem?_map, hx]; rfl
      have hxb : x = 6 ∨ x = 0 ∨ x = 4 := by have := List.mem_of_getElem? hx; simpa using this
      have hfl := fate_len x 5
      have h17 := s17 (cs i) g1 (10 + i) i (by omega) (fate x 5) (fun d hd => by have := fate_mem (by omega) hd; omega) (by omega)
      have hcs : sendC (cs i) (10 + i) i (fate x 5) = cs (i + 1) := by simp only [cs, hx2]
      have hw : w64 (10 + (i : Int)) = 10 + i := w64_id (by omega) (by omega)
      rw [hcs] at h17
      have hr1 := (cs_ok (i + 1) (by omega)).2.1
      refine ((s6 x 5 (by omega) (by omega)).and h17).mono fun n h again => ?_
      simp only [Chan.enc, g2, hr1, List.cons_append, List.nil_append] at h
      simp only [L9_2, vI_mk, vB_mk, vS_mk, vL_mk, sVer_mk, sOff_mk, sLen_mk, oVer_mk, oEs_mk, cI_mk, cB_mk, cS_mk, cL_mk, cVer_mk, cOff_mk, cLen_mk, gI_zero, gI_succ, gB_zero, gB_succ, gS_zero, gS_succ, gL_zero, gL_succ, okI_zero, okI_succ, okB_zero, okB_succ, okS_zero, okS_succ, okL_zero, okL_succ, isIntT_int, isBoolT_bool, isStrT_str, isSlT_sl, intOf_int, boolOf_bool, strOf_str, slOf_sl, treeOf_t, srVer_sref, srOff_sref, srLen_sref, ver_row, esOf_row, cellOf_box, aI_mk, aB_mk, aS_mk, aL_mk, aggOf_agg, join_eq, List.getD_cons_zero, List.getD_cons_succ, decide_true, decide_false, cnd_true, cnd_false, true_and, and_true, false_and, and_false, Option.bind_some, Option.bind_none, List.length_cons, List.length_nil, List.length_map, List.getElem?_map, Option.map_some, Option.map_none, Int.toNat_natCast, reduceCtorEq, eq_self, if_true, if_false, Nat.zero_add, Nat.reduceAdd, Nat.reduceEqDiff, Int.natCast_nonneg, List.drop_zero, or_true, true_or, or_false, false_or, Bool.not_true, Bool.not_false, Bool.false_eq_true, decide_eq_true_eq, ge_iff_le, gt_iff_lt, hx3, (show (i : Int) < 3 by omega), h.1, hw, h.2, Int.lt_irrefl, w64_succ (show i < 4611686018427387904 by omega), Rd.go_next]
    · simp only [List.length_cons, List.length_nil, Nat.zero_add, Nat.reduceAdd]
      have key := loop_overZ (R := List Tree) (Z := List AV × Heap → Option (List Tree)) (B := fun n z p again => L9_1 n z p again)
        (s := (([.sref 1 0 0 0, .sref 2 0 0 0, .t (tI 0)], [.box [.t (tI 5), .t (.sl 10 ((cs 3).frames.map Frame.enc)), .t (tI (cs 3).sent), .t (tI (cs 3).lost)], .row false 0 1 [], .row false 0 1 []]) : List AV × Heap))
        (r := ()) f4 (fun i (_ : Unit) => (([.sref 1 i 0 i, .sref 2 i 0 i, .t (tI i)], [.box [.t (tI 5), .t (.sl 10 ((f4.drop i).map Frame.enc)), .t (tI 3), .t (tI 1)], .row false i 1 (((f4.map Frame.arr).take i).map encI), .row false i 1 (((f4.map Frame.ser).take i).map encI)]) : List AV × Heap))
        (fun _ _ _ => .next ()) (fun _ => ()) (fun z _ => z ([.sref 1 4 0 4, .sref 2 4 0 4], [.box [.t (tI 5), .t (.sl 10 []), .t (tI 3), .t (tI 1)], .row false 4 1 ([16, 16, 17, 18].map encI), .row false 4 1 ([0, 1, 2, 2].map encI)])) (fun _ _ => True) () (by rw [cs3, cs3l]; rfl) trivial (runL_fold (fun _ _ => ()) (fun _ => ()) 0 _ ())
        (fun i s f hx hI => ?_) (fun _ _ _ _ _ _ _ => trivial) (fun s hI => ?_)
      · refine (key.and ((s7 [16, 16, 17, 18] [16, 16, 17, 18] (by simp)).and (s7 [0, 1, 2, 2] [0, 1, 2, 2] (by simp)))).mono fun n h again => ?_
        obtain ⟨k1, k2, k3⟩ := h
        simp only [L9_2, vI_mk, vB_mk, vS_mk, vL_mk, sVer_mk, sOff_mk, sLen_mk, oVer_mk, oEs_mk, cI_mk, cB_mk, cS_mk, cL_mk, cVer_mk, cOff_mk, cLen_mk, gI_zero, gI_succ, gB_zero, gB_succ, gS_zero, gS_succ, gL_zero, gL_succ, okI_zero, okI_succ, okB_zero, okB_succ, okS_zero, okS_succ, okL_zero, okL_succ, isIntT_int, isBoolT_bool, isStrT_str, isSlT_sl, intOf_int, boolOf_bool, strOf_str, slOf_sl, treeOf_t, srVer_sref, srOff_sref, srLen_sref, ver_row, esOf_row, cellOf_box, aI_mk, aB_mk, aS_mk, aL_mk, aggOf_agg, join_eq, List.getD_cons_zero, List.getD_cons_succ, decide_true, decide_false, cnd_true, cnd_false, true_and, and_true, false_and, and_false, Option.bind_some, Option.bind_none, List.length_cons, List.length_nil, List.length_map, List.getElem?_map, Option.map_some, Option.map_none, Int.toNat_natCast, reduceCtorEq, eq_self, if_true, if_false, Nat.zero_add, Nat.reduceAdd, Nat.reduceEqDiff, Int.natCast_nonneg, List.drop_zero, or_true, true_or, or_false, false_or, Bool.not_true, Bool.not_false, Bool.false_eq_true, decide_eq_true_eq, ge_iff_le, gt_iff_lt, Int.lt_irrefl, (show ¬ ((3 : Nat) : Int) < 3 by omega), k1]
        simp only [List.map_cons, List.map_nil, encI] at k2 k3
        simp only [vI_mk, vB_mk, vS_mk, vL_mk, sVer_mk, sOff_mk, sLen_mk, oVer_mk, oEs_mk, cI_mk, cB_mk, cS_mk, cL_mk, cVer_mk, cOff_mk, cLen_mk, gI_zero, gI_succ, gB_zero, gB_succ, gS_zero, gS_succ, gL_zero, gL_succ, okI_zero, okI_succ, okB_zero, okB_succ, okS_zero, okS_succ, okL_zero, okL_succ, isIntT_int, isBoolT_bool, isStrT_str, isSlT_sl, intOf_int, boolOf_bool, strOf_str, slOf_sl, treeOf_t, srVer_sref, srOff_sref, srLen_sref, ver_row, esOf_row, cellOf_box, aI_mk, aB_mk, aS_mk, aL_mk, aggOf_agg, join_eq, List.getD_cons_zero, List.getD_cons_succ, decide_true, decide_false, cnd_true, cnd_false, true_and, and_true, false_and, and_false, Option.bind_some, Option.bind_none, List.length_cons, List.length_nil, List.length_map, List.getElem?_map, Option.map_some, Option.map_none, Int.toNat_natCast, reduceCtorEq, eq_self, if_true, if_false, Nat.zero_add, Nat.reduceAdd, Nat.reduceEqDiff, Int.natCast_nonneg, List.drop_zero, or_true, true_or, or_false, false_or, Bool.not_true, Bool.not_false, Bool.false_eq_true, decide_eq_true_eq, ge_iff_le, gt_iff_lt, List.map_cons, List.map_nil, encI, List.take, k2, k3]
        simp [cnd_eq]
      · have hi := lt_of_some hx
        have hi4 : i < 4 := hi
        have hfr : (dropC (cs 3) i).frames = f :: f4.drop (i + 1) := by
          show (cs 3).frames.drop i = _
          rw [cs3, List.drop_eq_getElem_cons hi]
          rw [List.getElem?_eq_getElem hi] at hx
          cases hx
          rfl
        have h18 := s18 (dropC (cs 3) i) (good_drop (cs_ok 3 (by omega)).1 i) f _ hfr
        refine h18.mono fun n h z again => ?_
        rw [Chan.enc, hfr] at h
        simp only [dropC, (cs_ok 3 (by omega)).2.1, (cs_ok 3 (by omega)).2.2.1, cs3l, List.map_cons, show ((3 : Nat) : Int) = 3 from rfl] at h
        have hd : f4.drop i = f :: f4.drop (i + 1) := by
          rw [List.drop_eq_getElem_cons hi]
          rw [List.getElem?_eq_getElem hi] at hx
          cases hx
          rfl
        have ht1 : (f4.map Frame.arr).take (i + 1) = (f4.map Frame.arr).take i ++ [f.arr] := by rw [List.take_add_one, List.getElem?_map, hx]; rfl
        have ht2 : (f4.map Frame.ser).take (i + 1) = (f4.map Frame.ser).take i ++ [f.ser] := by rw [List.take_add_one, List.getElem?_map, hx]; rfl
        have hl1 : ((f4.map Frame.arr).take i).length = i := by simp; omega
        have hl2 : ((f4.map Frame.ser).take i).length = i := by simp; omega
        have hf0 : (f.arr == 0) = false := by
          have hm : f ∈ f4 := List.mem_of_getElem? hx
          have : ∀ f ∈ f4, (f.arr == 0) = false := by decide
          exact this f hm
        have e1 : List.take i (List.map encI ((f4.map Frame.arr).take i)) = List.map encI ((f4.map Frame.arr).take i) := List.take_of_length_le (by rw [List.length_map, hl1]; omega)
        have e2 : List.take i (List.map encI ((f4.map Frame.ser).take i)) = List.map encI ((f4.map Frame.ser).take i) := List.take_of_length_le (by rw [List.length_map, hl2]; omega)
        rw [hd]
        simp only [L9_1, vI_mk, vB_mk, vS_mk, vL_mk, sVer_mk, sOff_mk, sLen_mk, oVer_mk, oEs_mk, cI_mk, cB_mk, cS_mk, cL_mk, cVer_mk, cOff_mk, cLen_mk, gI_zero, gI_succ, gB_zero, gB_succ, gS_zero, gS_succ, gL_zero, gL_succ, okI_zero, okI_succ, okB_zero, okB_succ, okS_zero, okS_succ, okL_zero, okL_succ, isIntT_int, isBoolT_bool, isStrT_str, isSlT_sl, intOf_int, boolOf_bool, strOf_str, slOf_sl, treeOf_t, srVer_sref, srOff_sref, srLen_sref, ver_row, esOf_row, cellOf_box, aI_mk, aB_mk, aS_mk, aL_mk, aggOf_agg, join_eq, List.getD_cons_zero, List.getD_cons_succ, decide_true, decide_false, cnd_true, cnd_false, true_and, and_true, false_and, and_false, Option.bind_some, Option.bind_none, List.length_cons, List.length_nil, List.length_map, List.getElem?_map, Option.map_some, Option.map_none, Int.toNat_natCast, reduceCtorEq, eq_self, if_true, if_false, Nat.zero_add, Nat.reduceAdd, Nat.reduceEqDiff, Int.natCast_nonneg, List.drop_zero, or_true, true_or, or_false, false_or, Bool.not_true, Bool.not_false, Bool.false_eq_true, decide_eq_true_eq, ge_iff_le, gt_iff_lt, (show (i : Int) < 9 by omega), h, bne_self_eq_false, hf0, hl1, hl2, Nat.le_refl, (show i + 1 ≤ 1073741824 by omega), w64_succ (show i < 4611686018427387904 by omega), Rd.go_next, ht1, ht2, List.map_append, List.map_cons, List.map_nil, encI, e1, e2]
      · have h18 := s18e (dropC (cs 3) 4) (good_drop (cs_ok 3 (by omega)).1 4) (by show (cs 3).frames.drop 4 = _; rw [cs3]; rfl)
        refine h18.mono fun n k1 z again => ?_
        rw [Chan.enc, show (dropC (cs 3) 4).frames = [] from by show (cs 3).frames.drop 4 = _; rw [cs3]; rfl] at k1
        simp only [dropC, (cs_ok 3 (by omega)).2.1, (cs_ok 3 (by omega)).2.2.1, cs3l, List.map_nil, show ((3 : Nat) : Int) = 3 from rfl] at k1
        have x1 : (f4.map Frame.arr).take 4 = [16, 16, 17, 18] := rfl
        have x2 : (f4.map Frame.ser).take 4 = [0, 1, 2, 2] := rfl
        simp only [L9_1, show f4.length = 4 from rfl, show f4.drop 4 = [] from rfl, x1, x2, vI_mk, vB_mk, vS_mk, vL_mk, sVer_mk, sOff_mk, sLen_mk, oVer_mk, oEs_mk, cI_mk, cB_mk, cS_mk, cL_mk, cVer_mk, cOff_mk, cLen_mk, gI_zero, gI_succ, gB_zero, gB_succ, gS_zero, gS_succ, gL_zero, gL_succ, okI_zero, okI_succ, okB_zero, okB_succ, okS_zero, okS_succ, okL_zero, okL_succ, isIntT_int, isBoolT_bool, isStrT_str, isSlT_sl, intOf_int, boolOf_bool, strOf_str, slOf_sl, treeOf_t, srVer_sref, srOff_sref, srLen_sref, ver_row, esOf_row, cellOf_box, aI_mk, aB_mk, aS_mk, aL_mk, aggOf_agg, join_eq, List.getD_cons_zero, List.getD_cons_succ, decide_true, decide_false, cnd_true, cnd_false, true_and, and_true, false_and, and_false, Option.bind_some, Option.bind_none, List.length_cons, List.length_nil, List.length_map, List.getElem?_map, Option.map_some, Option.map_none, Int.toNat_natCast, reduceCtorEq, eq_self, if_true, if_false, Nat.zero_add, Nat.reduceAdd, Nat.reduceEqDiff, Int.natCast_nonneg, List.drop_zero, or_true, true_or, or_false, false_or, Bool.not_true, Bool.not_false, Bool.false_eq_true, decide_eq_true_eq, ge_iff_le, gt_iff_lt, (show ((4 : Nat) : Int) < 9 by omega), k1, List.map_nil]
        simp [cnd_eq]
theorem insB_last {α : Type} {g : α → Bool} {b : α} : ∀ {l : List α}, (∀ x ∈ l, g x = false) → insB g b l = l ++ [b]
  | [], _ => rfl
  | x :: l, h => by
    unfold insB
    rw [h x (by simp), insB_last fun y hy => h y (by simp [hy])]
    simp
theorem law3 (q m : Int) (hn : -2147483648 ≤ q ∧ q ≤ 2147483647) (hm : 0 ≤ m ∧ m < 4294967296) : Runs C 3 [.int .i32 q, .int .u32 m] [.bool true] := by
  refine Runs.of (fun k => e3 k _ _) ?_
  have hw : w64 q = q := w64_id (by omega) (by omega)
  have ht : Int.tmod m 1048576 = m % 1048576 := Int.tmod_eq_emod_of_nonneg (by omega)
  have hR0 : 0 ≤ m % 1048576 ∧ m % 1048576 < 1048576 := by omega
  have hwm : w64 (m % 1048576) = m % 1048576 := w64_id (by omega) (by omega)
  obtain ⟨R, hR⟩ : ∃ R, 1 + m % 1048576 = R := ⟨_, rfl⟩
  have hR' : 1 ≤ R ∧ R ≤ 1048576 := by omega
  have hw2 : w64 (1 + w64 (m % 1048576)) = R := by rw [hwm, hR]; exact w64_id (by omega) (by omega)
  have hw3 : w64 (q + w64 (8 * R)) = q + 8 * R := by rw [w64_id (x := 8 * R) (by omega) (by omega), w64_id (by omega) (by omega)]
  have hk : Int.tmod (w64 (Int.tmod q 8 + 8)) 8 = q % 8 := by
    have := Int.tmod_lt_of_pos q (show (0 : Int) < 8 by omega)
    have := Int.lt_tmod_of_pos q (show (0 : Int) < 8 by omega)
    rw [w64_id (by omega) (by omega), mod8]
  have h27 := s6 (q + 8 * R) R (by omega) hR'
  rw [fate_per q R (by omega)] at h27
  have hfl := fate_len q R
  simp only [ht, hw2, hw, hw3]
  refine Ev.rw (T' := ?TT) ((s6 q R (by omega) hR').and (h27.and (s7 (fate q R) (fate q R) (by omega)))) (fun k h => ?g1) ?g2
  case g1 =>
    simp only [h.1, h.2.1, h.2.2, vI_mk, vB_mk, vS_mk, vL_mk, sVer_mk, sOff_mk, sLen_mk, oVer_mk, oEs_mk, cI_mk, cB_mk, cS_mk, cL_mk, cVer_mk, cOff_mk, cLen_mk, gI_zero, gI_succ, gB_zero, gB_succ, gS_zero, gS_succ, gL_zero, gL_succ, okI_zero, okI_succ, okB_zero, okB_succ, okS_zero, okS_succ, okL_zero, okL_succ, isIntT_int, isBoolT_bool, isStrT_str, isSlT_sl, intOf_int, boolOf_bool, strOf_str, slOf_sl, treeOf_t, srVer_sref, srOff_sref, srLen_sref, ver_row, esOf_row, cellOf_box, aI_mk, aB_mk, aS_mk, aL_mk, aggOf_agg, join_eq, List.getD_cons_zero, List.getD_cons_succ, decide_true, decide_false, cnd_true, cnd_false, true_and, and_true, false_and, and_false, Option.bind_some, Option.bind_none, List.length_cons, List.length_nil, List.length_map, List.getElem?_map, Option.map_some, Option.map_none, Int.toNat_natCast, reduceCtorEq, eq_self, if_true, if_false, Nat.zero_add, Nat.reduceAdd, Nat.reduceEqDiff, Int.natCast_nonneg, List.drop_zero, or_true, true_or, or_false, false_or, Bool.not_true, Bool.not_false, Bool.false_eq_true, decide_eq_true_eq, ge_iff_le, gt_iff_lt, bne_self_eq_false]
    rfl
  case g2 =>
    refine loop_overQ (fun r => [Tree.bool r]) (fate q R) (fun i (_ : Unit) => (([.t (tI i)], []) : List AV × Heap)) (fun _ _ _ => .next ()) (fun _ => true) (fun _ _ => True) () rfl trivial (runL_fold (fun _ _ => ()) (fun _ => true) 0 _ ())
      (fun i s d hx hI => Ev.of fun n again => ?_) (fun _ _ _ _ _ _ _ => trivial) (fun s hI => ?_)
    · have hi := lt_of_some hx
      have hd := fate_mem hR'.1 (List.mem_of_getElem? hx)
      have hw4 : w64 (2 * R) = 2 * R := w64_id (by omega) (by omega)
      by_cases hi0 : i = 0
      · subst hi0
        simp only [L3_2, ht, hw2, vI_mk, vB_mk, vS_mk, vL_mk, sVer_mk, sOff_mk, sLen_mk, oVer_mk, oEs_mk, cI_mk, cB_mk, cS_mk, cL_mk, cVer_mk, cOff_mk, cLen_mk, gI_zero, gI_succ, gB_zero, gB_succ, gS_zero, gS_succ, gL_zero, gL_succ, okI_zero, okI_succ, okB_zero, okB_succ, okS_zero, okS_succ, okL_zero, okL_succ, isIntT_int, isBoolT_bool, isStrT_str, isSlT_sl, intOf_int, boolOf_bool, strOf_str, slOf_sl, treeOf_t, srVer_sref, srOff_sref, srLen_sref, ver_row, esOf_row, cellOf_box, aI_mk, aB_mk, aS_mk, aL_mk, aggOf_agg, join_eq, List.getD_cons_zero, List.getD_cons_succ, decide_true, decide_false, cnd_true, cnd_false, true_and, and_true, false_and, and_false, Option.bind_some, Option.bind_none, List.length_cons, List.length_nil, List.length_map, List.getElem?_map, Option.map_some, Option.map_none, Int.toNat_natCast, reduceCtorEq, eq_self, if_true, if_false, Nat.zero_add, Nat.reduceAdd, Nat.reduceEqDiff, Int.natCast_nonneg, List.drop_zero, or_true, true_or, or_false, false_or, Bool.not_true, Bool.not_false, Bool.false_eq_true, decide_eq_true_eq, ge_iff_le, gt_iff_lt, hx, encI, (show ((0 : Nat) : Int) < (fate q R).length by omega), (show ¬ d < R by omega), hw4, (show ¬ 2 * R < d by omega), (show ¬ (0 : Int) < ((0 : Nat) : Int) by omega), w64_succ (show 0 < 4611686018427387904 by omega), Rd.go_next]
      · have hp : (fate q R)[i - 1]? = some (fate q R)[i - 1] := List.getElem?_eq_getElem (by omega)
        have hs := List.pairwise_iff_getElem.1 (fate_asc (n := q) hR'.1) (i - 1) i (by omega) hi (by omega)
        rw [List.getElem?_eq_getElem hi] at hx
        have hx2 := Option.some.inj hx
        rw [hx2] at hs
        rw [← List.getElem?_eq_getElem hi] at hx
        simp only [L3_2, ht, hw2, vI_mk, vB_mk, vS_mk, vL_mk, sVer_mk, sOff_mk, sLen_mk, oVer_mk, oEs_mk, cI_mk, cB_mk, cS_mk, cL_mk, cVer_mk, cOff_mk, cLen_mk, gI_zero, gI_succ, gB_zero, gB_succ, gS_zero, gS_succ, gL_zero, gL_succ, okI_zero, okI_succ, okB_zero, okB_succ, okS_zero, okS_succ, okL_zero, okL_succ, isIntT_int, isBoolT_bool, isStrT_str, isSlT_sl, intOf_int, boolOf_bool, strOf_str, slOf_sl, treeOf_t, srVer_sref, srOff_sref, srLen_sref, ver_row, esOf_row, cellOf_box, aI_mk, aB_mk, aS_mk, aL_mk, aggOf_agg, join_eq, List.getD_cons_zero, List.getD_cons_succ, decide_true, decide_false, cnd_true, cnd_false, true_and, and_true, false_and, and_false, Option.bind_some, Option.bind_none, List.length_cons, List.length_nil, List.length_map, List.getElem?_map, Option.map_some, Option.map_none, Int.toNat_natCast, reduceCtorEq, eq_self, if_true, if_false, Nat.zero_add, Nat.reduceAdd, Nat.reduceEqDiff, Int.natCast_nonneg, List.drop_zero, or_true, true_or, or_false, false_or, Bool.not_true, Bool.not_false, Bool.false_eq_true, decide_eq_true_eq, ge_iff_le, gt_iff_lt, hx, hp, encI, (show (i : Int) < (fate q R).length by omega), (show ¬ d < R by omega), hw4, (show ¬ 2 * R < d by omega), (show (0 : Int) < (i : Int) by omega), w64_pred (show i < 4611686018427387904 by omega) (by omega), w64_succ (show i < 4611686018427387904 by omega), Int.not_le.2 hs, Rd.go_next]
    · refine ((s8 (fate q R) R (by omega)).and s9).mono fun k h again => ?_
      have h8 : 0 ≤ q % 8 ∧ q % 8 < 8 := by omega
      simp only [L3_2, ht, hw2, hw, hk, vI_mk, vB_mk, vS_mk, vL_mk, sVer_mk, sOff_mk, sLen_mk, oVer_mk, oEs_mk, cI_mk, cB_mk, cS_mk, cL_mk, cVer_mk, cOff_mk, cLen_mk, gI_zero, gI_succ, gB_zero, gB_succ, gS_zero, gS_succ, gL_zero, gL_succ, okI_zero, okI_succ, okB_zero, okB_succ, okS_zero, okS_succ, okL_zero, okL_succ, isIntT_int, isBoolT_bool, isStrT_str, isSlT_sl, intOf_int, boolOf_bool, strOf_str, slOf_sl, treeOf_t, srVer_sref, srOff_sref, srLen_sref, ver_row, esOf_row, cellOf_box, aI_mk, aB_mk, aS_mk, aL_mk, aggOf_agg, join_eq, List.getD_cons_zero, List.getD_cons_succ, decide_true, decide_false, cnd_true, cnd_false, true_and, and_true, false_and, and_false, Option.bind_some, Option.bind_none, List.length_cons, List.length_nil, List.length_map, List.getElem?_map, Option.map_some, Option.map_none, Int.toNat_natCast, reduceCtorEq, eq_self, if_true, if_false, Nat.zero_add, Nat.reduceAdd, Nat.reduceEqDiff, Int.natCast_nonneg, List.drop_zero, or_true, true_or, or_false, false_or, Bool.not_true, Bool.not_false, Bool.false_eq_true, decide_eq_true_eq, ge_iff_le, gt_iff_lt, Int.lt_irrefl, h.1, h.2, h8]
      have hm0 := Int.emod_nonneg (q / 8) (show R ≠ 0 by omega)
      have hne : ¬ R = R + 1 + q / 8 % R := by omega
      unfold fate
      rcases (show q % 8 = 0 ∨ q % 8 = 1 ∨ q % 8 = 2 ∨ q % 8 = 3 ∨ q % 8 = 4 ∨ q % 8 = 5 ∨ q % 8 = 6 ∨ q % 8 = 7 by omega) with e | e | e | e | e | e | e | e <;> simp [e, cnd_eq, okI, gI, intOf, isIntT, hne]

structure PInv (r : Int) (xs : List Stp) (s : PS) : Prop where
  rng : s.c.rng = r
  good : GoodC s.c
  sent : s.c.sent = xs.length
  slen : s.sent.length = xs.length
  at0 : 0 ≤ s.at_ ∧ s.at_ ≤ 255 * xs.length
  flen : s.c.frames.length = (xs.map fun x => (fate x.fate r).length).sum
  flen2 : s.c.frames.length ≤ 2 * xs.length
  sle : ∀ t ∈ s.sent, 0 ≤ t ∧ t ≤ s.at_
  lex : s.c.frames.Pairwise lexF
  frm : ∀ f ∈ s.c.frames, f.ser = f.num ∧ 0 ≤ f.num ∧ ∃ t, s.sent[f.num.toNat]? = some t ∧ t + r ≤ f.arr ∧ f.arr ≤ t + 2 * r
  lost : s.c.lost = (xs.countP fun x => decide (6 ≤ x.fate % 8) : Nat)
  plain : (∀ x ∈ xs, x.fate % 8 < 4) → s.c.frames.length = xs.length ∧ ∀ (i : Nat) f, s.c.frames[i]? = some f → f.num = i ∧ s.sent[i]? = some (f.arr - r)
theorem PInv.start {r : Int} (hr : 1 ≤ r ∧ r ≤ 1048576) : PInv r [] (startP r) where
  rng := rfl
  good := ⟨hr, ⟨by simp [startP], by simp [startP]⟩, by simp [startP], by simp [startP], by simp [startP], by simp [startP]⟩
  sent := rfl
  slen := rfl
  at0 := by simp [startP]
  flen := rfl
  flen2 := by simp [startP]
  sle := by simp [startP]
  lex := by simp [startP]
  frm := by simp [startP]
  lost := rfl
  plain := fun _ => ⟨rfl, by simp [startP]⟩
theorem lost_fate {n r : Int} (hr : 1 ≤ r) : r ∈ fate n r ↔ ¬ 6 ≤ n % 8 := by
  have h1 := Int.emod_nonneg (n / 8) (show r ≠ 0 by omega)
  have hne : ¬ r = r + 1 + n / 8 % r := by omega
  unfold fate
  split
  · simp; omega
  · split
    · simp; omega
    · split
      · simp [hne]; omega
      · simp; omega
theorem PInv.step {r : Int} {xs : List Stp} {s : PS} (h : PInv r xs s) (hn : xs.length < 1000) {x : Stp} (hx : x.ok) : PInv r (xs ++ [x]) (stepP s x) := by
  have hr := h.good.rng
  have hrr := h.rng
  have hat := h.at0
  have hfl := h.flen2
  have hsn := h.sent
  have hsl := h.slen
  have hxx := hx.1
  have hf2 := fate_len x.fate s.c.rng
  have hat' : 0 ≤ s.at_ + x.after ∧ s.at_ + x.after ≤ 1099511627776 := by omega
  have hfm : ∀ d ∈ fate x.fate s.c.rng, s.c.rng ≤ d ∧ d ≤ 2 * s.c.rng := fun d hd => fate_mem (by omega) hd
  refine ⟨h.rng, good_send h.good hat' hfm (by omega) (by omega), ?_, ?_, ?_, ?_, ?_, ?_, ?_, ?_, ?_, ?_⟩
  · simp only [stepP, sendC, List.length_append, List.length_cons, List.length_nil]; omega
  · simp [stepP, hsl]
  · simp only [stepP, List.length_append, List.length_cons, List.length_nil]; omega
  · simp [stepP, sendC, sendF_len, h.flen, hrr]
  · simp only [stepP, sendC, sendF_len, List.length_append, List.length_cons, List.length_nil]; omega
  · intro t ht
    simp only [stepP, List.mem_append, List.mem_singleton] at ht ⊢
    rcases ht with ht | rfl
    · have := h.sle t ht; omega
    · omega
  · exact sendF_lex _ _ _ _ _ (fate_asc (by omega)) (fun f hf d hd he => (h.good.frm f hf).2.2.2) h.lex
  · intro f hf
    simp only [stepP, sendC] at hf ⊢
    rcases (sendF_mem _ _ _ _ _ _).1 hf with hf | ⟨d, hd, rfl⟩
    · obtain ⟨h1, h2, t, h3, h4⟩ := h.frm f hf
      refine ⟨h1, h2, t, ?_, h4⟩
      rw [List.getElem?_append_left (lt_of_some h3)]
      exact h3
    · have := hfm d hd
      refine ⟨rfl, by simp only; omega, s.at_ + x.after, ?_, by simp only; omega, by simp only; omega⟩
      simp only
      rw [List.getElem?_append_right (by omega), show s.c.sent.toNat - s.sent.length = 0 by omega]
      rfl
  · simp only [stepP, sendC, lostBy, lost_fate hr.1, List.countP_append, List.countP_cons, List.countP_nil, h.lost, decide_eq_true_eq]
    split
    · simp
    · rename_i h6
      rw [if_pos (by omega)]
      simp
  · intro hp
    obtain ⟨p1, p2⟩ := h.plain fun y hy => hp y (by simp [hy])
    have hp1 : x.fate % 8 < 4 := hp x (by simp)
    have hft : fate x.fate s.c.rng = [s.c.rng] := by unfold fate; rw [if_pos hp1]
    have hfr : (stepP s x).c.frames = s.c.frames ++ [⟨s.at_ + x.after + s.c.rng, s.c.sent, s.c.sent⟩] := by
      show sendF _ _ _ (fate x.fate s.c.rng) s.c.frames = _
      rw [hft]
      show insF _ _ _ s.c.frames s.c.rng = _
      refine insB_last fun f hf => ?_
      obtain ⟨i, hi⟩ := List.mem_iff_getElem?.1 hf
      have := (p2 i f hi).2
      have := h.sle _ (List.mem_of_getElem? this)
      simp only [decide_eq_false_iff_not]
      omega
    rw [hfr]
    refine ⟨by simp [p1], fun i f hi => ?_⟩
    by_cases hil : i < s.c.frames.length
    · rw [List.getElem?_append_left hil] at hi
      obtain ⟨q1, q2⟩ := p2 i f hi
      refine ⟨q1, ?_⟩
      show (s.sent ++ _)[i]? = _
      rw [List.getElem?_append_left (lt_of_some q2)]
      exact q2
    · have hi2 := lt_of_some hi
      simp only [List.length_append, List.length_cons, List.length_nil] at hi2
      obtain rfl : i = s.c.frames.length := by omega
      rw [List.getElem?_append_right (by omega), Nat.sub_self] at hi
      cases hi
      refine ⟨by simp only; omega, ?_⟩
      show (s.sent ++ _)[_]? = _
      rw [List.getElem?_append_right (by omega), show s.c.frames.length - s.sent.length = 0 by omega]
      simp only [List.getElem?_cons_zero, Option.some.injEq]
      omega
theorem PInv.all {r : Int} (hr : 1 ≤ r ∧ r ≤ 1048576) {l : List Stp} (hl : l.length ≤ 1000) (ho : ∀ x ∈ l, x.ok) : PInv r l (playS r l) := by
  have : ∀ (ys xs : List Stp) (s : PS), PInv r xs s → (xs ++ ys).length ≤ 1000 → (∀ x ∈ ys, x.ok) → PInv r (xs ++ ys) (ys.foldl stepP s) := by
    intro ys
    induction ys with
    | nil => intro xs s h _ _; simpa using h
    | cons y ys ih =>
      intro xs s h h1 h2
      have hlen : xs.length < 1000 := by simp at h1; omega
      have := ih (xs ++ [y]) (stepP s y) (h.step hlen (h2 y (by simp))) (by simpa using h1) fun x hx => h2 x (by simp [hx])
      simpa using this
  exact this l [] (startP r) (PInv.start hr) (by simpa using hl) ho
end Ab
