/- Strings as lists of bytes. -/
import Derived.Test.YthgemjameiibpaaDoorAbVV
set_option linter.unusedVariables false
set_option linter.unusedSimpArgs false
namespace Ab
open Go
def tb (b : UInt8) : List Tree := [.int .u8 (b.toNat : Int)]
def bl (s : ByteArray) : List UInt8 := s.data.toList
def mkB (l : List UInt8) : ByteArray := ⟨l.toArray⟩
theorem mk_bl (s : ByteArray) : mkB (bl s) = s := by
  obtain ⟨a⟩ := s
  simp [mkB, bl]
theorem bl_mk (l : List UInt8) : bl (mkB l) = l := by simp [mkB, bl]
theorem bl_len (s : ByteArray) : (bl s).length = s.size := by
  obtain ⟨a⟩ := s
  simp [bl, ByteArray.size]
theorem mk_size (l : List UInt8) : (mkB l).size = l.length := by rw [← bl_len, bl_mk]
theorem bl_inj {a b : ByteArray} (h : bl a = bl b) : a = b := by rw [← mk_bl a, ← mk_bl b, h]
theorem bl_empty : bl (ByteArray.mk #[]) = [] := rfl
theorem strRow_bl (s : ByteArray) : strRow s = (bl s).map tb := rfl
theorem tb_inj {a b : UInt8} (h : tb a = tb b) : a = b := by
  simp only [tb, List.cons.injEq, Tree.int.injEq, and_true, true_and] at h
  exact UInt8.toNat_inj.1 (by omega)
theorem byteAt_bl (s : ByteArray) (i : Nat) : byteAt s i = (((bl s).getD i 0).toNat : Int) := by
  obtain ⟨⟨l⟩⟩ := s
  unfold byteAt bl
  by_cases h : i < l.length
  · have h1 : (ByteArray.mk ⟨l⟩)[i]? = some l[i] := getElem?_pos (ByteArray.mk ⟨l⟩) i h
    rw [h1]
    simp [List.getD, h]
  · have h1 : (ByteArray.mk ⟨l⟩)[i]? = none := getElem?_neg (ByteArray.mk ⟨l⟩) i h
    rw [h1]
    simp [List.getD, h]
theorem isByteL_tb (b : UInt8) : isByteL (tb b) = true := rfl
theorem okBytes_tb (l : List UInt8) : okBytes (l.map tb) = true := by
  unfold okBytes
  rw [List.all_map, List.all_eq_true]
  exact fun x _ => rfl
theorem byteL_tb (b : UInt8) : byteL (tb b) = b := by
  simp [byteL, tb]
theorem push_fold (l : List UInt8) (s : ByteArray) : bl (l.foldl ByteArray.push s) = bl s ++ l := by
  induction l generalizing s with
  | nil => simp
  | cons b l ih => rw [List.foldl_cons, ih]; simp [bl, ByteArray.push]
theorem bytesOf_tb (l : List UInt8) : bytesOf (l.map tb) = mkB l := by
  unfold bytesOf
  rw [List.map_map, show byteL ∘ tb = id from funext byteL_tb, List.map_id]
  apply bl_inj
  rw [push_fold, bl_mk]
  rfl
def setB (l : List UInt8) (p : Nat) (m : List UInt8) : List UInt8 := l.take p ++ m ++ l.drop (p + m.length)
theorem rowSet_tb (l : List UInt8) (p : Nat) (m : List UInt8) : rowSet (l.map tb) p (m.map tb) = (setB l p m).map tb := by
  simp [rowSet, setB, List.map_take, List.map_drop]
theorem rep_tb (k : Nat) : List.replicate k ([Tree.int IntKind.u8 0] : List Tree) = (List.replicate k (0 : UInt8)).map tb := by
  rw [List.map_replicate]; rfl
theorem take_tb (k : Nat) (l : List UInt8) : List.take k (l.map tb) = (l.take k).map tb := by rw [List.map_take]
theorem drop_tb (k : Nat) (l : List UInt8) : List.drop k (l.map tb) = (l.drop k).map tb := by rw [List.map_drop]
theorem set_tb (l : List UInt8) (k : Nat) (b : UInt8) : List.set (l.map tb) k (tb b) = (l.set k b).map tb := by rw [List.map_set]
theorem get_tb (l : List UInt8) (k : Nat) : (l.map tb)[k]? = l[k]?.map tb := by rw [List.getElem?_map]
theorem byteAt_tree (s : ByteArray) (i : Nat) : ([Tree.int IntKind.u8 (byteAt s i)] : List Tree) = tb ((bl s).getD i 0) := by rw [byteAt_bl]; rfl
theorem bl_extract (s : ByteArray) (i j : Nat) : bl (s.extract i j) = ((bl s).drop i).take (j - i) := by
  unfold bl
  rw [ByteArray.data_extract]
  simp [List.extract_eq_take_drop]
theorem bl_get_ext {a b : ByteArray} (h : a.size = b.size) (hb : ∀ i, i < a.size → (bl a).getD i 0 = (bl b).getD i 0) : a = b := by
  apply bl_inj
  apply List.ext_getElem (by rw [bl_len, bl_len, h])
  intro i h1 h2
  have := hb i (by rw [← bl_len]; exact h1)
  simpa [List.getD, h1, h2] using this
theorem setB_len (l : List UInt8) (p : Nat) (m : List UInt8) (h : p + m.length ≤ l.length) : (setB l p m).length = l.length := by
  simp only [setB, List.length_append, List.length_take, List.length_drop]
  omega
theorem setB_get (l : List UInt8) (p : Nat) (m : List UInt8) (h : p + m.length ≤ l.length) (i : Nat) :
    (setB l p m).getD i 0 = if p ≤ i ∧ i < p + m.length then m.getD (i - p) 0 else l.getD i 0 := by
  simp only [setB, List.getD_eq_getElem?_getD, List.getElem?_append, List.length_take, List.length_append, List.getElem?_take, List.getElem?_drop]
  have e : min p l.length = p := by omega
  simp only [e]
  by_cases h1 : i < p
  · rw [if_pos (by omega), if_pos h1, if_pos h1, if_neg (by omega)]
  · rw [if_neg (c := i < p) h1]
    by_cases h2 : i < p + m.length
    · rw [if_pos h2, if_pos ⟨by omega, h2⟩]
    · rw [if_neg h2, if_neg (by omega), show p + m.length + (i - (p + m.length)) = i by omega]
theorem setB_step (l : List UInt8) (p : Nat) (m : List UInt8) (i : Nat) (hi : i < m.length) (h : p + m.length ≤ l.length) :
    (setB l p (m.take i)).set (p + i) (m.getD i 0) = setB l p (m.take (i + 1)) := by
  have h1 : (m.take i).length = i := by simp; omega
  have h2 : (m.take (i + 1)).length = i + 1 := by simp; omega
  apply List.ext_getElem?
  intro k
  have hl1 : (setB l p (m.take i)).length = l.length := setB_len _ _ _ (by omega)
  have hl2 : (setB l p (m.take (i + 1))).length = l.length := setB_len _ _ _ (by omega)
  by_cases hk : k < l.length
  · have e1 : ∀ q : List UInt8, q.length = l.length → q[k]? = some (q.getD k 0) := fun q hq => by simp [List.getD, hq, hk]
    rw [e1 _ (by simpa using hl1), e1 _ hl2]
    congr 1
    have hs : ((setB l p (m.take i)).set (p + i) (m.getD i 0)).getD k 0 = if p + i = k then m.getD i 0 else (setB l p (m.take i)).getD k 0 := by
      simp only [List.getD_eq_getElem?_getD, List.getElem?_set, hl1]
      by_cases hpk : p + i = k
      · subst hpk; simp [hk]
      · simp [hpk]
    rw [hs, setB_get _ _ _ (by omega), setB_get _ _ _ (by omega), h1, h2]
    have ht : ∀ a b : Nat, a < b → b ≤ m.length → (m.take b).getD a 0 = m.getD a 0 := fun a b hab hb => by
      simp [List.getD_eq_getElem?_getD, List.getElem?_take, hab]
    by_cases hpk : p + i = k
    · subst hpk
      rw [if_pos rfl, if_pos ⟨by omega, by omega⟩, show p + i - p = i by omega, ht i (i + 1) (by omega) (by omega)]
    · rw [if_neg hpk]
      by_cases hr : p ≤ k ∧ k < p + i
      · rw [if_pos hr, if_pos ⟨hr.1, by omega⟩, ht _ _ (by omega) (by omega), ht _ _ (by omega) (by omega)]
      · rw [if_neg hr, if_neg (by omega)]
  · rw [List.getElem?_eq_none (by simp; omega), List.getElem?_eq_none (by omega)]
end Ab
