/- Receiver: the segments that numbers select; joining lists. -/
import Derived.Test.YthgemjameiibpaaDoorReL4
import Derived.Test.YthgemjameiibpaaDoorReDec
set_option linter.unusedVariables false
set_option linter.unusedSimpArgs false
namespace Ab
open Go

theorem s1000033 (es : List (List Tree)) (hl : es.length ≤ 1073741824) : Runs C 1000033 [.sl 8 es] [.sl 8 es] := by
  refine Runs.of (fun n => e1000033 n _) (Ev.of fun n => ?_)
  by_cases h : es.length = 0
  · have : es = [] := List.eq_nil_of_length_eq_zero h
    subst this
    simp [cnd_eq, both_self]
  · rw [cnd_pos h, cnd_pos hl, List.take_of_length_le (Nat.le_refl _)]
theorem tmodN (n m : Nat) : Int.tmod (n : Int) (m : Int) = ((n % m : Nat) : Int) := by
  rw [Int.tmod_eq_emod_of_nonneg (by omega)]; omega
theorem shr8 (n : Nat) : shrK .u16 (n : Int) 8 = ((n / 256 : Nat) : Int) := by
  unfold shrK
  rw [show (2 : Int) ^ min (8 : Int).toNat IntKind.u16.bits = 256 by decide, Int.fdiv_eq_ediv_of_nonneg _ (by decide)]
  omega
theorem minN (q a : Nat) : (if ((a : Nat) : Int) < (q : Int) then ((a : Nat) : Int) else (q : Int)) = ((min q a : Nat) : Int) := by
  split <;> omega
theorem cut_enc1 (D : ByteArray) {x : Nat} (h : x % 3 = 0) : (cutSeg D x).enc = [tI 1, tI 5, tI ((1 + x : Nat) : Int), tI ((x % D.size : Nat) : Int), tI D.size, .bool true, .str (D.extract (x % D.size) (x % D.size + min (1 + x / 256 % 16) (D.size - x % D.size))), .sl 2 []] := by
  simp [cutSeg, h, Seg.enc]
theorem cut_enc0 (D : ByteArray) {x : Nat} (h : ¬ x % 3 = 0) : (cutSeg D x).enc = [tI 1, tI 5, tI 0, tI ((x % D.size : Nat) : Int), tI D.size, .bool false, .str (D.extract (x % D.size) (x % D.size + min (1 + x / 256 % 16) (D.size - x % D.size))), .sl 2 []] := by
  simp [cutSeg, h, Seg.enc]
theorem s23 (D : ByteArray) (l : List Nat) (hD : 1 ≤ D.size ∧ D.size ≤ 900) (hl : ∀ n ∈ l, n < 65536) (hlen : l.length ≤ 1000) :
    Runs C 23 [tI 5, .str D, .sl 1 (l.map U16.enc)] [.sl 8 ((l.map (cutSeg D)).map Seg.enc)] := by
  refine Runs.of (fun n => e23 n _ _ _) ?_
  refine loop_overQ (fun (q : List Tree) => q) l (fun i (_ : Unit) => (([.sref 0 i 0 i, .t (tI i)], [.row false i 8 (((l.take i).map (cutSeg D)).map Seg.enc)]) : List AV × Heap)) (fun _ (_ : Unit) _ => .next ()) (fun _ => [.sl 8 ((l.map (cutSeg D)).map Seg.enc)]) (fun _ _ => True) () rfl trivial (runL_fold _ _ _ _ _)
    (fun i s x hx hI => Ev.of fun n again => ?_) (fun _ _ _ _ _ _ _ => trivial) (fun s hI => Ev.of fun n again => ?_)
  · have hi := lt_of_some hx
    have hxb := hl x (List.mem_of_getElem? hx)
    have hm : x % D.size < D.size := Nat.mod_lt _ (by omega)
    have hq : x / 256 % 16 < 16 := Nat.mod_lt _ (by omega)
    have w1 : w64 (x : Int) = x := w64_id (by omega) (by omega)
    have w2 : w64 ((x / 256 : Nat) : Int) = ((x / 256 : Nat) : Int) := w64_id (by omega) (by omega)
    have w3 : w64 (1 + ((x / 256 % 16 : Nat) : Int)) = ((1 + x / 256 % 16 : Nat) : Int) := by rw [w64_id (by omega) (by omega)]; omega
    have w4 : w64 ((D.size : Int) - ((x % D.size : Nat) : Int)) = ((D.size - x % D.size : Nat) : Int) := by rw [w64_id (by omega) (by omega)]; omega
    have w5 : w64 (((x % D.size : Nat) : Int) + ((min (1 + x / 256 % 16) (D.size - x % D.size) : Nat) : Int)) = ((x % D.size + min (1 + x / 256 % 16) (D.size - x % D.size) : Nat) : Int) := by rw [w64_id (by omega) (by omega)]; omega
    have w6 : w64 (1 + (x : Int)) = ((1 + x : Nat) : Int) := by rw [w64_id (by omega) (by omega)]; omega
    have t16 : Int.tmod ((x / 256 : Nat) : Int) 16 = ((x / 256 % 16 : Nat) : Int) := tmodN _ 16
    have t3 : Int.tmod (x : Int) 3 = ((x % 3 : Nat) : Int) := tmodN _ 3
    have hlen2 : (((l.take i).map (cutSeg D)).map Seg.enc).length = i := by simp; omega
    have hts : l.take (i + 1) = l.take i ++ [x] := take_snoc hx
    have htk : List.take i (((l.take i).map (cutSeg D)).map Seg.enc) = ((l.take i).map (cutSeg D)).map Seg.enc := by rw [List.take_of_length_le (by omega)]
    have hD0 : ¬ (D.size : Int) = 0 := by omega
    simp only [L23_2, vv, reduceCtorEq, Nat.reduceAdd, Nat.reduceEqDiff, hx, U16.enc, (show (i : Int) < l.length by omega), w64_succ (show i < 4611686018427387904 by omega), w1, shr8, w2, tmodN, t16, t3, w3, w4, minN, w5, w6, hD0, Rd.go_next]
    rw [cnd_pos (by omega), cnd_pos (by omega)]
    simp only [J23_1, vv, reduceCtorEq, Nat.reduceAdd, Nat.reduceEqDiff, htk, hlen2, Nat.zero_add]
    have k1 : i + 1 ≤ 1073741824 := by omega
    have hfin : ((l.take (i + 1)).map (cutSeg D)).map Seg.enc = ((l.take i).map (cutSeg D)).map Seg.enc ++ [(cutSeg D x).enc] := by rw [hts]; simp
    by_cases h3 : x % 3 = 0
    · have hb : (((x % 3 : Nat) : Int) == 0) = true := by rw [beq_iff_eq]; omega
      simp only [hb, vv, reduceCtorEq, Nat.reduceAdd, Nat.reduceEqDiff, k1, Nat.le_refl, hfin, cut_enc1 D h3, w64_succ (show i < 4611686018427387904 by omega)]
    · have hb : (((x % 3 : Nat) : Int) == 0) = false := by rw [beq_eq_false_iff_ne]; omega
      simp only [hb, vv, reduceCtorEq, Nat.reduceAdd, Nat.reduceEqDiff, k1, Nat.le_refl, hfin, cut_enc0 D h3, w64_succ (show i < 4611686018427387904 by omega)]
  · have hlen2 : ((l.map (cutSeg D)).map Seg.enc).length = l.length := by simp
    have htk : List.take l.length ((l.map (cutSeg D)).map Seg.enc) = (l.map (cutSeg D)).map Seg.enc := by rw [List.take_of_length_le (by omega)]
    simp only [L23_2, vv, reduceCtorEq, Nat.reduceAdd, Nat.reduceEqDiff, Int.lt_irrefl, List.take_length, htk]
def LL.enc (l : List Seg) : List Tree := [.sl 8 (l.map Seg.enc)]
theorem s1000030 (ls : List (List Seg)) (hs : ls.flatten.length ≤ 1000000) (hn : ls.length ≤ 1000) : Runs C 1000030 [.sl 1 (ls.map LL.enc)] [.sl 8 (ls.flatten.map Seg.enc)] := by
  refine Runs.of (fun n => e1000030 n _) ?_
  have hsub : ∀ i, (ls.take i).flatten.length ≤ 1000000 := fun i => by
    have : ls.flatten = (ls.take i).flatten ++ (ls.drop i).flatten := by rw [← List.flatten_append, List.take_append_drop]
    rw [this, List.length_append] at hs
    omega
  refine loop_overQ (fun (q : List Tree) => q) ls (fun i (_ : Unit) => (([.t (tI ((ls.take i).flatten.length : Nat)), .t (tI i)], []) : List AV × Heap)) (fun _ (_ : Unit) _ => .next ()) (fun _ => [.sl 8 (ls.flatten.map Seg.enc)]) (fun _ _ => True) () rfl trivial (runL_fold _ _ _ _ _)
    (fun i s x hx hI => Ev.of fun n again => ?_) (fun _ _ _ _ _ _ _ => trivial) (fun s hI => ?_)
  · have hi := lt_of_some hx
    have hts : (ls.take (i + 1)).flatten.length = (ls.take i).flatten.length + x.length := by rw [take_snoc hx]; simp
    have h1 := hsub (i + 1)
    have hw : w64 ((((ls.take i).flatten.length : Nat) : Int) + ((x.length : Nat) : Int)) = (((ls.take (i + 1)).flatten.length : Nat) : Int) := by rw [w64_id (by omega) (by omega)]; omega
    have hw2 : ¬ (((ls.take (i + 1)).flatten.length : Nat) : Int) < 0 := by omega
    simp only [L1000030_2, vv, reduceCtorEq, Nat.reduceAdd, Nat.reduceEqDiff, hx, LL.enc, (show (i : Int) < ls.length by omega), w64_succ (show i < 4611686018427387904 by omega), hw, hw2, Rd.go_next]
  · have key : Ev fun n => loopIter (fun p again => L1000030_1 n (ls.map LL.enc) p again) n ([.sref 0 0 0 0, .t (tI 0)], [.row false 0 8 []]) = some [.sl 8 (ls.flatten.map Seg.enc)] := by
      refine loop_overQ (fun (q : List Tree) => q) ls (fun i (_ : Unit) => (([.sref 0 i 0 (ls.take i).flatten.length, .t (tI i)], [.row false i 8 ((ls.take i).flatten.map Seg.enc)]) : List AV × Heap)) (fun _ (_ : Unit) _ => .next ()) (fun _ => [.sl 8 (ls.flatten.map Seg.enc)]) (fun _ _ => True) () rfl trivial (runL_fold _ _ _ _ _)
        (fun i s x hx hI => Ev.of fun n again => ?_) (fun _ _ _ _ _ _ _ => trivial) (fun s hI => Ev.of fun n again => ?_)
      · have hi := lt_of_some hx
        have hts : (ls.take (i + 1)).flatten = (ls.take i).flatten ++ x := by rw [take_snoc hx]; simp
        have hts2 : (ls.take (i + 1)).flatten.length = (ls.take i).flatten.length + x.length := by rw [hts, List.length_append]
        have h1 := hsub (i + 1)
        have htk : List.take (ls.take i).flatten.length ((ls.take i).flatten.map Seg.enc) = (ls.take i).flatten.map Seg.enc := by rw [List.take_of_length_le (by rw [List.length_map]; exact Nat.le_refl _)]
        have k1 : (ls.take i).flatten.length + x.length ≤ 1073741824 := by omega
        simp only [L1000030_1, vv, reduceCtorEq, Nat.reduceAdd, Nat.reduceEqDiff, hx, LL.enc, (show (i : Int) < ls.length by omega), w64_succ (show i < 4611686018427387904 by omega), Nat.lt_irrefl, Nat.le_refl, htk, k1, Rd.go_next]
        rw [hts2, hts, List.map_append]
      · have htk : List.take ls.flatten.length (ls.flatten.map Seg.enc) = ls.flatten.map Seg.enc := by rw [List.take_of_length_le (by rw [List.length_map]; exact Nat.le_refl _)]
        simp only [L1000030_1, vv, reduceCtorEq, Nat.reduceAdd, Nat.reduceEqDiff, Int.lt_irrefl, List.take_length, htk]
    refine key.mono fun n h again => ?_
    have k1 : ((ls.flatten.length : Nat) : Int) ≤ 1073741824 := by omega
    simp only [L1000030_2, vv, reduceCtorEq, Nat.reduceAdd, Nat.reduceEqDiff, Int.lt_irrefl, List.take_length, k1, h]
end Ab
