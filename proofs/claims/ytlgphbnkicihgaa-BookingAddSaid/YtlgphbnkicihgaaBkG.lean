/- Booking: Fit; the law. -/
import Derived.Test.YtlgphbnkicihgaaBkF
set_option linter.unusedVariables false
set_option linter.unusedSimpArgs false
namespace Ab
open Go

theorem fitL_run (n : Int) : ∀ (l : List Span) (i : Nat), runL (fun _ (_ : Unit) (x : Span) => if n ≤ x.to - x.frm then .done (some x.frm) else .next ()) (fun _ => none) i l () = fitL n l
  | [], _ => rfl
  | x :: l, i => by
    by_cases h : n ≤ x.to - x.frm
    · simp [runL, fitL, h]
    · simp only [runL, fitL, h, if_false]; exact fitL_run n l _
theorem firstR_run (ready n : Int) : ∀ (l : List Span) (i : Nat), runL (fun _ (_ : Unit) (x : Span) => if (if x.frm < ready then ready else x.frm) + n ≤ x.to ∧ (if x.frm < ready then ready else x.frm) < x.to then .done (if x.frm < ready then ready else x.frm) else .next ()) (fun _ => -1) i l () = firstR ready n l
  | [], _ => rfl
  | x :: l, i => by
    by_cases h : (if x.frm < ready then ready else x.frm) + n ≤ x.to ∧ (if x.frm < ready then ready else x.frm) < x.to
    · simp only [runL, firstR, if_pos h]
    · simp only [runL, firstR, if_neg h]; exact firstR_run ready n l _

theorem s42 (g : List Span) (ready n : Int) (hg : ∀ x ∈ g, 0 ≤ x.frm ∧ x.frm ≤ 2199023255552) (hl : g.length ≤ 1000000) (hr : ready ≤ 2199023255552) (hn : 0 ≤ n ∧ n ≤ 2199023255552) : Runs C 42 [.sl 2 (g.map Span.enc), tI ready, tI n] [tI (firstR ready n g)] := by
  refine Runs.of (fun n => e42 n _ _ _) ?_
  refine loop_overQ (fun r => [tI r]) g (fun i _ => (([.t (tI i)], []) : List AV × Heap)) _ (fun _ => -1) (fun _ _ => True) () rfl trivial (firstR_run ready n g 0)
    (fun i s x hx hI => Ev.of fun m again => ?_) (fun _ _ _ _ _ _ _ => trivial) (fun s hI => Ev.of fun m again => ?_)
  · have hi := lt_of_some hx
    have hb := hg x (List.mem_of_getElem? hx)
    simp only [vI_mk, vB_mk, vS_mk, vL_mk, sVer_mk, sOff_mk, sLen_mk, oVer_mk, oEs_mk, cI_mk, cB_mk, cS_mk, cL_mk, cVer_mk, cOff_mk, cLen_mk, gI_zero, gI_succ, gB_zero, gB_succ, gS_zero, gS_succ, gL_zero, gL_succ, okI_zero, okI_succ, okB_zero, okB_succ, okS_zero, okS_succ, okL_zero, okL_succ, isIntT_int, isBoolT_bool, isStrT_str, isSlT_sl, intOf_int, boolOf_bool, strOf_str, slOf_sl, treeOf_t, srVer_sref, srOff_sref, srLen_sref, ver_row, esOf_row, cellOf_box, List.getD_cons_zero, List.getD_cons_succ, decide_true, decide_false, cnd_true, cnd_false, true_and, and_true, false_and, and_false, Option.bind_some, Option.bind_none, List.length_cons, List.length_nil, List.length_map, List.getElem?_map, Option.map_some, Option.map_none, Int.toNat_natCast, reduceCtorEq, eq_self, if_true, if_false, Nat.zero_add, Nat.reduceAdd, Nat.reduceEqDiff, Int.natCast_nonneg, List.drop_zero, or_true, true_or, or_false, false_or, Bool.not_true, Bool.not_false, Bool.false_eq_true, decide_eq_true_eq, ge_iff_le, gt_iff_lt, hx, Span.enc, w64_succ (show i < 4611686018427387904 by omega), (show (i : Int) < g.length by omega)]
    by_cases h1 : x.frm < ready
    · simp only [h1, vI_mk, vB_mk, vS_mk, vL_mk, sVer_mk, sOff_mk, sLen_mk, oVer_mk, oEs_mk, cI_mk, cB_mk, cS_mk, cL_mk, cVer_mk, cOff_mk, cLen_mk, gI_zero, gI_succ, gB_zero, gB_succ, gS_zero, gS_succ, gL_zero, gL_succ, okI_zero, okI_succ, okB_zero, okB_succ, okS_zero, okS_succ, okL_zero, okL_succ, isIntT_int, isBoolT_bool, isStrT_str, isSlT_sl, intOf_int, boolOf_bool, strOf_str, slOf_sl, treeOf_t, srVer_sref, srOff_sref, srLen_sref, ver_row, esOf_row, cellOf_box, List.getD_cons_zero, List.getD_cons_succ, decide_true, decide_false, cnd_true, cnd_false, true_and, and_true, false_and, and_false, Option.bind_some, Option.bind_none, List.length_cons, List.length_nil, List.length_map, List.getElem?_map, Option.map_some, Option.map_none, Int.toNat_natCast, reduceCtorEq, eq_self, if_true, if_false, Nat.zero_add, Nat.reduceAdd, Nat.reduceEqDiff, Int.natCast_nonneg, List.drop_zero, or_true, true_or, or_false, false_or, Bool.not_true, Bool.not_false, Bool.false_eq_true, decide_eq_true_eq, ge_iff_le, gt_iff_lt, w64_id (x := ready + n) (by omega) (by omega), cnd_eq]
      grind [Rd.go_done, Rd.go_next]
    · simp only [h1, vI_mk, vB_mk, vS_mk, vL_mk, sVer_mk, sOff_mk, sLen_mk, oVer_mk, oEs_mk, cI_mk, cB_mk, cS_mk, cL_mk, cVer_mk, cOff_mk, cLen_mk, gI_zero, gI_succ, gB_zero, gB_succ, gS_zero, gS_succ, gL_zero, gL_succ, okI_zero, okI_succ, okB_zero, okB_succ, okS_zero, okS_succ, okL_zero, okL_succ, isIntT_int, isBoolT_bool, isStrT_str, isSlT_sl, intOf_int, boolOf_bool, strOf_str, slOf_sl, treeOf_t, srVer_sref, srOff_sref, srLen_sref, ver_row, esOf_row, cellOf_box, List.getD_cons_zero, List.getD_cons_succ, decide_true, decide_false, cnd_true, cnd_false, true_and, and_true, false_and, and_false, Option.bind_some, Option.bind_none, List.length_cons, List.length_nil, List.length_map, List.getElem?_map, Option.map_some, Option.map_none, Int.toNat_natCast, reduceCtorEq, eq_self, if_true, if_false, Nat.zero_add, Nat.reduceAdd, Nat.reduceEqDiff, Int.natCast_nonneg, List.drop_zero, or_true, true_or, or_false, false_or, Bool.not_true, Bool.not_false, Bool.false_eq_true, decide_eq_true_eq, ge_iff_le, gt_iff_lt, w64_id (x := x.frm + n) (by omega) (by omega), cnd_eq]
      grind [Rd.go_done, Rd.go_next]
  · simp only [vI_mk, vB_mk, vS_mk, vL_mk, sVer_mk, sOff_mk, sLen_mk, oVer_mk, oEs_mk, cI_mk, cB_mk, cS_mk, cL_mk, cVer_mk, cOff_mk, cLen_mk, gI_zero, gI_succ, gB_zero, gB_succ, gS_zero, gS_succ, gL_zero, gL_succ, okI_zero, okI_succ, okB_zero, okB_succ, okS_zero, okS_succ, okL_zero, okL_succ, isIntT_int, isBoolT_bool, isStrT_str, isSlT_sl, intOf_int, boolOf_bool, strOf_str, slOf_sl, treeOf_t, srVer_sref, srOff_sref, srLen_sref, ver_row, esOf_row, cellOf_box, List.getD_cons_zero, List.getD_cons_succ, decide_true, decide_false, cnd_true, cnd_false, true_and, and_true, false_and, and_false, Option.bind_some, Option.bind_none, List.length_cons, List.length_nil, List.length_map, List.getElem?_map, Option.map_some, Option.map_none, Int.toNat_natCast, reduceCtorEq, eq_self, if_true, if_false, Nat.zero_add, Nat.reduceAdd, Nat.reduceEqDiff, Int.natCast_nonneg, List.drop_zero, or_true, true_or, or_false, false_or, Bool.not_true, Bool.not_false, Bool.false_eq_true, decide_eq_true_eq, ge_iff_le, gt_iff_lt, Int.lt_irrefl]

def fitRes (q : List Int) (cs : List Contact) (l : List Booking) (k ready size : Int) : Int × Int :=
  if ckCheck q cs l k ≠ 0 then (0, ckCheck q cs l k) else match cs[k.toNat]? with
    | none => (0, 0)
    | some c => if 1 ≤ size ∧ size ≤ 65536 then (match fitL (durT c size) (gapsL c.stop (busy l k) (if c.start < ready then ready else c.start)) with
        | some a => (a, 0)
        | none => (0, 16)) else (0, 2)

theorem ck_ok {q : List Int} {cs : List Contact} {l : List Booking} {k : Int} (h : ckCheck q cs l k = 0) : ∃ c, cs[k.toNat]? = some c ∧ 0 ≤ k ∧ k < cs.length ∧ contactCheck c = 0 ∧ BookOk cs l ∧ l.length ≤ 512 := by
  simp only [ckCheck] at h
  split at h
  · omega
  · split at h
    · omega
    · rename_i h1 h2
      have hlt : k.toNat < cs.length := by omega
      have hc : cs[k.toNat]? = some cs[k.toNat] := List.getElem?_eq_getElem hlt
      simp only [ne_eq, Decidable.not_not, bookCheck] at h1
      split at h1
      · omega
      · split at h1
        · omega
        · rename_i h3 h4
          simp only [ne_eq, Decidable.not_not] at h3
          exact ⟨_, hc, by omega, by omega, plan_ok h3 _ (List.mem_of_getElem? hc), bookL_ok h1, by omega⟩

theorem gapsL_len (stop : Int) : ∀ (l : List Span) (a : Int), (gapsL stop l a).length ≤ l.length + 1
  | [], a => by simp only [gapsL]; split <;> simp
  | x :: l, a => by
    have := gapsL_len stop l (if a < x.to then x.to else a)
    simp only [gapsL, List.length_append, List.length_cons]
    split <;> simp <;> omega
theorem gapsR_len (stop : Int) : ∀ (l : List Span) (a : Int), (gapsR stop l a).length ≤ l.length + 1
  | [], a => by simp only [gapsR]; split <;> simp
  | x :: l, a => by
    have := gapsR_len stop l x.to
    simp only [gapsR, List.length_append, List.length_cons]
    split <;> simp <;> omega

theorem s13 (q : List Int) (cs : List Contact) (l : List Booking) (k ready size : Int) :
    Runs C 13 [.sl 1 (q.map encI), .sl 7 (cs.map Contact.enc), .sl 4 (l.map Booking.enc), tI k, tI ready, tI size] [tI (fitRes q cs l k ready size).1, tI (fitRes q cs l k ready size).2] := by
  refine Runs.of (fun n => e13 n _ _ _ _ _ _) ?_
  by_cases h0 : ckCheck q cs l k = 0
  · obtain ⟨c, hc, hk, hk2, hcc, hbo, hl⟩ := ck_ok h0
    have o := contact_ok hcc
    by_cases hs : 1 ≤ size ∧ size ≤ 65536
    · have hd : durCheck c size = 0 := by simp [durCheck, hcc, hs]
      have hfr : fitRes q cs l k ready size = (match fitL (durT c size) (gapsL c.stop (busy l k) (if c.start < ready then ready else c.start)) with | some a => (a, 0) | none => (0, 16)) := by
        simp only [fitRes, h0, ne_eq, not_true_eq_false, if_false, hc, hs, and_self, if_true]
      rw [hfr]
      have hrow := busy_row hbo hc hcc
      have hmem := gapsL_mem (busy l k) c.start (if c.start < ready then ready else c.start) hrow (by split <;> omega)
      have hglen := gapsL_len c.stop (busy l k) (if c.start < ready then ready else c.start)
      have hbl := busy_len l k
      have hst : c.start ≤ (if c.start < ready then ready else c.start) := by split <;> omega
      refine Ev.rw (T' := ?T') ((s39 q cs l k).and ((s25 c size).and (s40 q cs l k ready c hk hc (by omega)))) (fun n ⟨k1, k2, k3⟩ => ?a) ?b
      case a =>
        simp only [Contact.enc, List.cons_append, List.nil_append] at k2
        simp only [k1, k2, k3, vI_mk, vB_mk, vS_mk, vL_mk, sVer_mk, sOff_mk, sLen_mk, oVer_mk, oEs_mk, cI_mk, cB_mk, cS_mk, cL_mk, cVer_mk, cOff_mk, cLen_mk, gI_zero, gI_succ, gB_zero, gB_succ, gS_zero, gS_succ, gL_zero, gL_succ, okI_zero, okI_succ, okB_zero, okB_succ, okS_zero, okS_succ, okL_zero, okL_succ, isIntT_int, isBoolT_bool, isStrT_str, isSlT_sl, intOf_int, boolOf_bool, strOf_str, slOf_sl, treeOf_t, srVer_sref, srOff_sref, srLen_sref, ver_row, esOf_row, cellOf_box, List.getD_cons_zero, List.getD_cons_succ, decide_true, decide_false, cnd_true, cnd_false, true_and, and_true, false_and, and_false, Option.bind_some, Option.bind_none, List.length_cons, List.length_nil, List.length_map, List.getElem?_map, Option.map_some, Option.map_none, Int.toNat_natCast, reduceCtorEq, eq_self, if_true, if_false, Nat.zero_add, Nat.reduceAdd, Nat.reduceEqDiff, Int.natCast_nonneg, List.drop_zero, or_true, true_or, or_false, false_or, Bool.not_true, Bool.not_false, Bool.false_eq_true, decide_eq_true_eq, ge_iff_le, gt_iff_lt, h0, hd, bne_self_eq_false, hk, hc, Contact.enc]
        rfl
      case b =>
        generalize gapsL c.stop (busy l k) (if c.start < ready then ready else c.start) = g at hmem hglen
        refine loop_overQ (fun (r : Option Int) => [tI (match r with | some a => (a, 0) | none => (0, 16) : Int × Int).1, tI (match r with | some a => (a, 0) | none => (0, 16) : Int × Int).2]) g (fun i _ => (([.t (tI i)], []) : List AV × Heap)) _ (fun _ => none) (fun _ _ => True) () rfl trivial (fitL_run (durT c size) g 0)
          (fun i s x hx hI => Ev.of fun m again => ?_) (fun _ _ _ _ _ _ _ => trivial) (fun s hI => Ev.of fun m again => ?_)
        · have hi := lt_of_some hx
          have hb := hmem x (List.mem_of_getElem? hx)
          simp only [vI_mk, vB_mk, vS_mk, vL_mk, sVer_mk, sOff_mk, sLen_mk, oVer_mk, oEs_mk, cI_mk, cB_mk, cS_mk, cL_mk, cVer_mk, cOff_mk, cLen_mk, gI_zero, gI_succ, gB_zero, gB_succ, gS_zero, gS_succ, gL_zero, gL_succ, okI_zero, okI_succ, okB_zero, okB_succ, okS_zero, okS_succ, okL_zero, okL_succ, isIntT_int, isBoolT_bool, isStrT_str, isSlT_sl, intOf_int, boolOf_bool, strOf_str, slOf_sl, treeOf_t, srVer_sref, srOff_sref, srLen_sref, ver_row, esOf_row, cellOf_box, List.getD_cons_zero, List.getD_cons_succ, decide_true, decide_false, cnd_true, cnd_false, true_and, and_true, false_and, and_false, Option.bind_some, Option.bind_none, List.length_cons, List.length_nil, List.length_map, List.getElem?_map, Option.map_some, Option.map_none, Int.toNat_natCast, reduceCtorEq, eq_self, if_true, if_false, Nat.zero_add, Nat.reduceAdd, Nat.reduceEqDiff, Int.natCast_nonneg, List.drop_zero, or_true, true_or, or_false, false_or, Bool.not_true, Bool.not_false, Bool.false_eq_true, decide_eq_true_eq, ge_iff_le, gt_iff_lt, hx, Span.enc, w64_succ (show i < 4611686018427387904 by omega), (show (i : Int) < g.length by omega), w64_id (x := x.to - x.frm) (by omega) (by omega), cnd_eq]
          by_cases h : durT c size ≤ x.to - x.frm <;> simp only [h, if_true, if_false, Rd.go_done, Rd.go_next]
        · simp only [vI_mk, vB_mk, vS_mk, vL_mk, sVer_mk, sOff_mk, sLen_mk, oVer_mk, oEs_mk, cI_mk, cB_mk, cS_mk, cL_mk, cVer_mk, cOff_mk, cLen_mk, gI_zero, gI_succ, gB_zero, gB_succ, gS_zero, gS_succ, gL_zero, gL_succ, okI_zero, okI_succ, okB_zero, okB_succ, okS_zero, okS_succ, okL_zero, okL_succ, isIntT_int, isBoolT_bool, isStrT_str, isSlT_sl, intOf_int, boolOf_bool, strOf_str, slOf_sl, treeOf_t, srVer_sref, srOff_sref, srLen_sref, ver_row, esOf_row, cellOf_box, List.getD_cons_zero, List.getD_cons_succ, decide_true, decide_false, cnd_true, cnd_false, true_and, and_true, false_and, and_false, Option.bind_some, Option.bind_none, List.length_cons, List.length_nil, List.length_map, List.getElem?_map, Option.map_some, Option.map_none, Int.toNat_natCast, reduceCtorEq, eq_self, if_true, if_false, Nat.zero_add, Nat.reduceAdd, Nat.reduceEqDiff, Int.natCast_nonneg, List.drop_zero, or_true, true_or, or_false, false_or, Bool.not_true, Bool.not_false, Bool.false_eq_true, decide_eq_true_eq, ge_iff_le, gt_iff_lt, Int.lt_irrefl]
    · have hd : durCheck c size = 2 := by simp [durCheck, hcc, hs]
      refine ((s39 q cs l k).and (s25 c size)).mono fun n ⟨k1, k2⟩ => ?_
      simp only [Contact.enc, List.cons_append, List.nil_append] at k2
      simp only [k1, k2, vI_mk, vB_mk, vS_mk, vL_mk, sVer_mk, sOff_mk, sLen_mk, oVer_mk, oEs_mk, cI_mk, cB_mk, cS_mk, cL_mk, cVer_mk, cOff_mk, cLen_mk, gI_zero, gI_succ, gB_zero, gB_succ, gS_zero, gS_succ, gL_zero, gL_succ, okI_zero, okI_succ, okB_zero, okB_succ, okS_zero, okS_succ, okL_zero, okL_succ, isIntT_int, isBoolT_bool, isStrT_str, isSlT_sl, intOf_int, boolOf_bool, strOf_str, slOf_sl, treeOf_t, srVer_sref, srOff_sref, srLen_sref, ver_row, esOf_row, cellOf_box, List.getD_cons_zero, List.getD_cons_succ, decide_true, decide_false, cnd_true, cnd_false, true_and, and_true, false_and, and_false, Option.bind_some, Option.bind_none, List.length_cons, List.length_nil, List.length_map, List.getElem?_map, Option.map_some, Option.map_none, Int.toNat_natCast, reduceCtorEq, eq_self, if_true, if_false, Nat.zero_add, Nat.reduceAdd, Nat.reduceEqDiff, Int.natCast_nonneg, List.drop_zero, or_true, true_or, or_false, false_or, Bool.not_true, Bool.not_false, Bool.false_eq_true, decide_eq_true_eq, ge_iff_le, gt_iff_lt, h0, hd, bne_self_eq_false, hk, hc, Contact.enc, fitRes, hs, ne_eq, not_true_eq_false]
      rfl
  · refine (s39 q cs l k).mono fun n k1 => ?_
    simp only [k1, vI_mk, vB_mk, vS_mk, vL_mk, sVer_mk, sOff_mk, sLen_mk, oVer_mk, oEs_mk, cI_mk, cB_mk, cS_mk, cL_mk, cVer_mk, cOff_mk, cLen_mk, gI_zero, gI_succ, gB_zero, gB_succ, gS_zero, gS_succ, gL_zero, gL_succ, okI_zero, okI_succ, okB_zero, okB_succ, okS_zero, okS_succ, okL_zero, okL_succ, isIntT_int, isBoolT_bool, isStrT_str, isSlT_sl, intOf_int, boolOf_bool, strOf_str, slOf_sl, treeOf_t, srVer_sref, srOff_sref, srLen_sref, ver_row, esOf_row, cellOf_box, List.getD_cons_zero, List.getD_cons_succ, decide_true, decide_false, cnd_true, cnd_false, true_and, and_true, false_and, and_false, Option.bind_some, Option.bind_none, List.length_cons, List.length_nil, List.length_map, List.getElem?_map, Option.map_some, Option.map_none, Int.toNat_natCast, reduceCtorEq, eq_self, if_true, if_false, Nat.zero_add, Nat.reduceAdd, Nat.reduceEqDiff, Int.natCast_nonneg, List.drop_zero, or_true, true_or, or_false, false_or, Bool.not_true, Bool.not_false, Bool.false_eq_true, decide_eq_true_eq, ge_iff_le, gt_iff_lt, fitRes, h0, ne_eq, not_false_eq_true]
    rw [cnd_pos (by simp [h0])]

theorem s14 (q : List Int) (cs : List Contact) (l : List Booking) (k ready size : Int) :
    Runs C 14 [.sl 1 (q.map encI), .sl 7 (cs.map Contact.enc), .sl 4 (l.map Booking.enc), tI k, tI ready, tI size] [tI (fitRes q cs l k ready size).1, tI (fitRes q cs l k ready size).2] := by
  refine Runs.of (fun n => e14 n _ _ _ _ _ _) ?_
  by_cases h0 : ckCheck q cs l k = 0
  · obtain ⟨c, hc, hk, hk2, hcc, hbo, hl⟩ := ck_ok h0
    have o := contact_ok hcc
    by_cases hs : 1 ≤ size ∧ size ≤ 65536
    · have hfr : fitRes q cs l k ready size = (match fitL (durT c size) (gapsL c.stop (busy l k) (if c.start < ready then ready else c.start)) with | some a => (a, 0) | none => (0, 16)) := by
        simp only [fitRes, h0, ne_eq, not_true_eq_false, if_false, hc, hs, and_self, if_true]
      have hrow := busy_row hbo hc hcc
      have hmemR := gapsR_mem (busy l k) c.start hrow
      have hglen := gapsR_len c.stop (busy l k) c.start
      have hbl := busy_len l k
      have db := durT_bound hcc (n := size) (by omega) (by omega)
      have hd1 : 1 ≤ durT c size := by
        have a := ticks_bound (c := c) (by omega) (n := 16) (by omega) (by omega)
        have p := passT_step (c := c) (n := size) (by omega)
        have a2 := ticks_bound (c := c) (by omega) (n := if 16 < size then 16 else size) (by split <;> omega) (by split <;> omega)
        have p2 := passT_bound (c := c) (by omega) (n := if size - 16 < 0 then 0 else size - 16) (by split <;> omega) (by split <;> omega)
        have m1 : 0 ≤ c.loss * (2 * c.rng + 1 + ticks c 16) := Int.mul_nonneg (by omega) (by omega)
        unfold durT
        omega
      have hfe := fit_eq (ready := ready) hd1 (busy l k) c.start (by omega) hrow
      have hmemL := gapsL_mem (busy l k) c.start (if c.start < ready then ready else c.start) hrow (by split <;> omega)
      have hnn : ∀ a, fitL (durT c size) (gapsL c.stop (busy l k) (if c.start < ready then ready else c.start)) = some a → 0 ≤ a := fun a ha => fit_nonneg (fun x hx => by have := hmemL x hx; split at this <;> omega) ha
      rw [hfr]
      by_cases hlate : c.stop < ready
      · have hf : fitL (durT c size) (gapsL c.stop (busy l k) (if c.start < ready then ready else c.start)) = none := by
          rw [first_late hlate (fun x hx => (hmemR x hx).2.2)] at hfe
          cases hfl : fitL (durT c size) (gapsL c.stop (busy l k) (if c.start < ready then ready else c.start)) with
          | none => rfl
          | some a => rw [hfl] at hfe; have := hnn a hfl; simp at hfe; omega
        refine (s41 q cs l k).mono fun n k1 => ?_
        simp only [k1, vI_mk, vB_mk, vS_mk, vL_mk, sVer_mk, sOff_mk, sLen_mk, oVer_mk, oEs_mk, cI_mk, cB_mk, cS_mk, cL_mk, cVer_mk, cOff_mk, cLen_mk, gI_zero, gI_succ, gB_zero, gB_succ, gS_zero, gS_succ, gL_zero, gL_succ, okI_zero, okI_succ, okB_zero, okB_succ, okS_zero, okS_succ, okL_zero, okL_succ, isIntT_int, isBoolT_bool, isStrT_str, isSlT_sl, intOf_int, boolOf_bool, strOf_str, slOf_sl, treeOf_t, srVer_sref, srOff_sref, srLen_sref, ver_row, esOf_row, cellOf_box, List.getD_cons_zero, List.getD_cons_succ, decide_true, decide_false, cnd_true, cnd_false, true_and, and_true, false_and, and_false, Option.bind_some, Option.bind_none, List.length_cons, List.length_nil, List.length_map, List.getElem?_map, Option.map_some, Option.map_none, Int.toNat_natCast, reduceCtorEq, eq_self, if_true, if_false, Nat.zero_add, Nat.reduceAdd, Nat.reduceEqDiff, Int.natCast_nonneg, List.drop_zero, or_true, true_or, or_false, false_or, Bool.not_true, Bool.not_false, Bool.false_eq_true, decide_eq_true_eq, ge_iff_le, gt_iff_lt, h0, bne_self_eq_false, (show ¬ size < 1 by omega), (show ¬ 65536 < size by omega), hk, hc, Contact.enc, hlate, hf]
      · refine ((s41 q cs l k).and ((s43 q cs l k c hk hc (by omega)).and ((s44 c hcc size (by omega) (by omega)).and (s42 (gapsR c.stop (busy l k) c.start) ready (durT c size) (fun x hx => by have := hmemR x hx; omega) (by omega) (by omega) (by omega))))).mono fun n ⟨k1, k2, k3, k4⟩ => ?_
        simp only [Contact.enc, List.cons_append, List.nil_append] at k3
        simp only [k1, k2, k3, k4, vI_mk, vB_mk, vS_mk, vL_mk, sVer_mk, sOff_mk, sLen_mk, oVer_mk, oEs_mk, cI_mk, cB_mk, cS_mk, cL_mk, cVer_mk, cOff_mk, cLen_mk, gI_zero, gI_succ, gB_zero, gB_succ, gS_zero, gS_succ, gL_zero, gL_succ, okI_zero, okI_succ, okB_zero, okB_succ, okS_zero, okS_succ, okL_zero, okL_succ, isIntT_int, isBoolT_bool, isStrT_str, isSlT_sl, intOf_int, boolOf_bool, strOf_str, slOf_sl, treeOf_t, srVer_sref, srOff_sref, srLen_sref, ver_row, esOf_row, cellOf_box, List.getD_cons_zero, List.getD_cons_succ, decide_true, decide_false, cnd_true, cnd_false, true_and, and_true, false_and, and_false, Option.bind_some, Option.bind_none, List.length_cons, List.length_nil, List.length_map, List.getElem?_map, Option.map_some, Option.map_none, Int.toNat_natCast, reduceCtorEq, eq_self, if_true, if_false, Nat.zero_add, Nat.reduceAdd, Nat.reduceEqDiff, Int.natCast_nonneg, List.drop_zero, or_true, true_or, or_false, false_or, Bool.not_true, Bool.not_false, Bool.false_eq_true, decide_eq_true_eq, ge_iff_le, gt_iff_lt, h0, bne_self_eq_false, (show ¬ size < 1 by omega), (show ¬ 65536 < size by omega), hk, hc, Contact.enc, hlate, ← hfe]
        cases hfl : fitL (durT c size) (gapsL c.stop (busy l k) (if c.start < ready then ready else c.start)) with
        | none => simp [cnd_eq]
        | some a =>
          have := hnn a hfl
          rw [cnd_neg (by simp; omega)]
          rfl
    · refine (s41 q cs l k).mono fun n k1 => ?_
      simp only [k1, vI_mk, vB_mk, vS_mk, vL_mk, sVer_mk, sOff_mk, sLen_mk, oVer_mk, oEs_mk, cI_mk, cB_mk, cS_mk, cL_mk, cVer_mk, cOff_mk, cLen_mk, gI_zero, gI_succ, gB_zero, gB_succ, gS_zero, gS_succ, gL_zero, gL_succ, okI_zero, okI_succ, okB_zero, okB_succ, okS_zero, okS_succ, okL_zero, okL_succ, isIntT_int, isBoolT_bool, isStrT_str, isSlT_sl, intOf_int, boolOf_bool, strOf_str, slOf_sl, treeOf_t, srVer_sref, srOff_sref, srLen_sref, ver_row, esOf_row, cellOf_box, List.getD_cons_zero, List.getD_cons_succ, decide_true, decide_false, cnd_true, cnd_false, true_and, and_true, false_and, and_false, Option.bind_some, Option.bind_none, List.length_cons, List.length_nil, List.length_map, List.getElem?_map, Option.map_some, Option.map_none, Int.toNat_natCast, reduceCtorEq, eq_self, if_true, if_false, Nat.zero_add, Nat.reduceAdd, Nat.reduceEqDiff, Int.natCast_nonneg, List.drop_zero, or_true, true_or, or_false, false_or, Bool.not_true, Bool.not_false, Bool.false_eq_true, decide_eq_true_eq, ge_iff_le, gt_iff_lt, h0, bne_self_eq_false, fitRes, hs, hc, ne_eq, not_true_eq_false, cnd_eq]
      grind
  · refine (s41 q cs l k).mono fun n k1 => ?_
    simp only [k1, vI_mk, vB_mk, vS_mk, vL_mk, sVer_mk, sOff_mk, sLen_mk, oVer_mk, oEs_mk, cI_mk, cB_mk, cS_mk, cL_mk, cVer_mk, cOff_mk, cLen_mk, gI_zero, gI_succ, gB_zero, gB_succ, gS_zero, gS_succ, gL_zero, gL_succ, okI_zero, okI_succ, okB_zero, okB_succ, okS_zero, okS_succ, okL_zero, okL_succ, isIntT_int, isBoolT_bool, isStrT_str, isSlT_sl, intOf_int, boolOf_bool, strOf_str, slOf_sl, treeOf_t, srVer_sref, srOff_sref, srLen_sref, ver_row, esOf_row, cellOf_box, List.getD_cons_zero, List.getD_cons_succ, decide_true, decide_false, cnd_true, cnd_false, true_and, and_true, false_and, and_false, Option.bind_some, Option.bind_none, List.length_cons, List.length_nil, List.length_map, List.getElem?_map, Option.map_some, Option.map_none, Int.toNat_natCast, reduceCtorEq, eq_self, if_true, if_false, Nat.zero_add, Nat.reduceAdd, Nat.reduceEqDiff, Int.natCast_nonneg, List.drop_zero, or_true, true_or, or_false, false_or, Bool.not_true, Bool.not_false, Bool.false_eq_true, decide_eq_true_eq, ge_iff_le, gt_iff_lt, fitRes, h0, ne_eq, not_false_eq_true]
    rw [cnd_pos (by simp [h0])]

theorem s37 (q : List Int) (cs : List Contact) : Runs C 37 [.sl 1 (q.map encI), .sl 7 (cs.map Contact.enc)] [.bool (decide (6 < q.length ∨ 10 < cs.length))] := by
  refine Runs.of (fun n => e37 n _ _) (Ev.of fun n => ?_)
  simp only [vI_mk, vB_mk, vS_mk, vL_mk, sVer_mk, sOff_mk, sLen_mk, oVer_mk, oEs_mk, cI_mk, cB_mk, cS_mk, cL_mk, cVer_mk, cOff_mk, cLen_mk, gI_zero, gI_succ, gB_zero, gB_succ, gS_zero, gS_succ, gL_zero, gL_succ, okI_zero, okI_succ, okB_zero, okB_succ, okS_zero, okS_succ, okL_zero, okL_succ, isIntT_int, isBoolT_bool, isStrT_str, isSlT_sl, intOf_int, boolOf_bool, strOf_str, slOf_sl, treeOf_t, srVer_sref, srOff_sref, srLen_sref, ver_row, esOf_row, cellOf_box, List.getD_cons_zero, List.getD_cons_succ, decide_true, decide_false, cnd_true, cnd_false, true_and, and_true, false_and, and_false, Option.bind_some, Option.bind_none, List.length_cons, List.length_nil, List.length_map, List.getElem?_map, Option.map_some, Option.map_none, Int.toNat_natCast, reduceCtorEq, eq_self, if_true, if_false, Nat.zero_add, Nat.reduceAdd, Nat.reduceEqDiff, Int.natCast_nonneg, List.drop_zero, or_true, true_or, or_false, false_or, Bool.not_true, Bool.not_false, Bool.false_eq_true, decide_eq_true_eq, ge_iff_le, gt_iff_lt, tB_cnd]
  congr 3
  rw [Bool.eq_iff_iff]
  split <;> simp <;> omega
theorem s11 (q : List Int) (cs : List Contact) (l : List Booking) : Runs C 11 [.sl 1 (q.map encI), .sl 7 (cs.map Contact.enc), .sl 4 (l.map Booking.enc)] [.bool (decide (6 < q.length ∨ 10 < cs.length ∨ 30 < l.length))] := by
  refine Runs.of (fun n => e11 n _ _ _) ?_
  refine (s37 q cs).mono fun n h => ?_
  simp only [h, vI_mk, vB_mk, vS_mk, vL_mk, sVer_mk, sOff_mk, sLen_mk, oVer_mk, oEs_mk, cI_mk, cB_mk, cS_mk, cL_mk, cVer_mk, cOff_mk, cLen_mk, gI_zero, gI_succ, gB_zero, gB_succ, gS_zero, gS_succ, gL_zero, gL_succ, okI_zero, okI_succ, okB_zero, okB_succ, okS_zero, okS_succ, okL_zero, okL_succ, isIntT_int, isBoolT_bool, isStrT_str, isSlT_sl, intOf_int, boolOf_bool, strOf_str, slOf_sl, treeOf_t, srVer_sref, srOff_sref, srLen_sref, ver_row, esOf_row, cellOf_box, List.getD_cons_zero, List.getD_cons_succ, decide_true, decide_false, cnd_true, cnd_false, true_and, and_true, false_and, and_false, Option.bind_some, Option.bind_none, List.length_cons, List.length_nil, List.length_map, List.getElem?_map, Option.map_some, Option.map_none, Int.toNat_natCast, reduceCtorEq, eq_self, if_true, if_false, Nat.zero_add, Nat.reduceAdd, Nat.reduceEqDiff, Int.natCast_nonneg, List.drop_zero, or_true, true_or, or_false, false_or, Bool.not_true, Bool.not_false, Bool.false_eq_true, decide_eq_true_eq, ge_iff_le, gt_iff_lt, tB_cnd]
  congr 3
  rw [Bool.eq_iff_iff]
  split <;> simp <;> omega
theorem s12 : Runs C 12 [] [.bool true] := Ev.add 60 (Ev.of fun n => by kernel_rfl)

theorem law3 (q : List Int) (cs : List Contact) (l : List Booking) (k ready size : Int) :
    Runs C 3 [.sl 1 (q.map encI), .sl 7 (cs.map Contact.enc), .sl 4 (l.map Booking.enc), tI k, tI ready, tI size] [.bool true] := by
  refine Runs.of (fun n => e3 n _ _ _ _ _ _) ?_
  refine ((s11 q cs l).and ((s13 q cs l k ready size).and ((s14 q cs l k ready size).and s12))).mono fun n ⟨h1, h2, h3, h4⟩ => ?_
  simp only [h1, h2, h3, h4, vI_mk, vB_mk, vS_mk, vL_mk, sVer_mk, sOff_mk, sLen_mk, oVer_mk, oEs_mk, cI_mk, cB_mk, cS_mk, cL_mk, cVer_mk, cOff_mk, cLen_mk, gI_zero, gI_succ, gB_zero, gB_succ, gS_zero, gS_succ, gL_zero, gL_succ, okI_zero, okI_succ, okB_zero, okB_succ, okS_zero, okS_succ, okL_zero, okL_succ, isIntT_int, isBoolT_bool, isStrT_str, isSlT_sl, intOf_int, boolOf_bool, strOf_str, slOf_sl, treeOf_t, srVer_sref, srOff_sref, srLen_sref, ver_row, esOf_row, cellOf_box, List.getD_cons_zero, List.getD_cons_succ, decide_true, decide_false, cnd_true, cnd_false, true_and, and_true, false_and, and_false, Option.bind_some, Option.bind_none, List.length_cons, List.length_nil, List.length_map, List.getElem?_map, Option.map_some, Option.map_none, Int.toNat_natCast, reduceCtorEq, eq_self, if_true, if_false, Nat.zero_add, Nat.reduceAdd, Nat.reduceEqDiff, Int.natCast_nonneg, List.drop_zero, or_true, true_or, or_false, false_or, Bool.not_true, Bool.not_false, Bool.false_eq_true, decide_eq_true_eq, ge_iff_le, gt_iff_lt, beq_self_eq_true, cnd_eq]
  split <;> rfl
end Ab
