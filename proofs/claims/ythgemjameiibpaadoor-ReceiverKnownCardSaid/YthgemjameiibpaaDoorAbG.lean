/- Soundness: one operation. -/
import Derived.Test.YthgemjameiibpaaDoorAbF
import Derived.RangeFuncLeaves
namespace Ab
open Go

variable {R : Type} {P : Program} {B : Nat → Prop} {κ : KMap} {h : Heap} {w : World} {N : Nat} {env : Env} {a : Act}

theorem vopt_ok (hr : Rel B N κ env h a w) (x : Option Operand) : VOpt B κ h w (optAV env x) (x.map a.eval) := by
  cases x with
  | none => exact trivial
  | some x => exact ev_ok hr x

theorem parts_ok (hr : Rel B N κ env h a w) (parts : Array (Nat × Operand)) : (parts.map fun (i, x) => (i, a.eval x)).size = (parts.toList.map fun p => (p.1, ev env p.2)).length ∧
    ∀ (j i : Nat) (x : AV), (parts.toList.map fun p => (p.1, ev env p.2))[j]? = some (i, x) → ∃ v, (parts.map fun (i, x) => (i, a.eval x)).toList[j]? = some (i, v) ∧ VRel B κ h w x v := by
  refine ⟨by simp, fun j i x hx => ?_⟩
  rw [List.getElem?_map] at hx
  cases hp : parts.toList[j]? with
  | none => rw [hp] at hx; cases hx
  | some p =>
    rw [hp] at hx
    simp only [Option.map_some, Option.some.injEq, Prod.mk.injEq] at hx
    obtain ⟨rfl, rfl⟩ := hx
    refine ⟨a.eval p.2, ?_, ev_ok hr p.2⟩
    rw [Array.toList_map, List.getElem?_map, hp]
    rfl

theorem evs_ok (hr : Rel B N κ env h a w) (xs : Array Operand) : (xs.map a.eval).size = (xs.toList.map (ev env)).length ∧ ∀ (j : Nat) (x : AV), (xs.toList.map (ev env))[j]? = some x → VRel B κ h w x ((xs.map a.eval).getD j undef) := by
  refine ⟨by simp, fun j x hx => ?_⟩
  rw [List.getElem?_map] at hx
  cases hp : xs.toList[j]? with
  | none => rw [hp] at hx; cases hx
  | some p =>
    rw [hp] at hx
    simp only [Option.map_some, Option.some.injEq] at hx
    subst hx
    have hj : j < xs.size := by simpa using (List.getElem?_eq_some_iff.1 hp).1
    have he : xs[j] = p := by simpa [hj] using hp
    simp only [Array.getD, Array.size_map, hj, dif_pos]
    simpa [he] using ev_ok hr p

theorem amax_go_ok (mx : Bool) : ∀ {l : List AV} {x : Int} {K : AV → Option R} {r : R} {vs : List Value}, amaxL.go mx x l K = some r → vs.length = l.length → (∀ (j : Nat) (y : AV) (v : Value), l[j]? = some y → vs[j]? = some v → VRel B κ h w y v) →
    ∃ n : Int, K (.t (.int .i64 n)) = some r ∧ (vs.foldlM (if mx then Builtin.max2 else Builtin.min2) (.int .i64 x) : Sem Value).run P w = .ok (.int .i64 n) w
  | [], x, K, r, vs, hr, hl, hv => by
    obtain rfl : vs = [] := List.eq_nil_of_length_eq_zero (by simpa using hl)
    exact ⟨x, hr, by simp⟩
  | y :: l, x, K, r, vs, hr, hl, hv => by
    cases vs with
    | nil => simp at hl
    | cons v vs =>
      simp only [amaxL.go] at hr
      obtain ⟨b, hb, hr1⟩ := bind_some hr
      obtain rfl := asIntK_ok hb (hv 0 y v rfl rfl)
      obtain ⟨n, h1, h2⟩ := amax_go_ok mx (vs := vs) hr1 (by simpa using hl) fun j y' v' hy hv' => hv (j + 1) y' v' (by simpa using hy) (by simpa using hv')
      refine ⟨n, h1, ?_⟩
      cases mx
      · simp only [Bool.false_eq_true, if_false] at h2 ⊢
        simp [Builtin.min2, h2]
      · simp only [if_true] at h2 ⊢
        simp [Builtin.max2, h2]

theorem amaxL_ok (mx : Bool) {l : List AV} {K : AV → Option R} {r : R} {vs : List Value} (hr : amaxL mx l K = some r) (hl : vs.length = l.length) (hv : ∀ (j : Nat) (y : AV) (v : Value), l[j]? = some y → vs[j]? = some v → VRel B κ h w y v) (ts : Array TypeId) (ty : TypeId) :
    ∃ n : Int, K (.t (.int .i64 n)) = some r ∧ (if mx then Builtin.max_ ts ty vs.toArray else Builtin.min_ ts ty vs.toArray).run P w = .ok (.int .i64 n) w := by
  cases l with
  | nil => simp [amaxL] at hr
  | cons x l =>
    cases vs with
    | nil => simp at hl
    | cons v vs =>
      simp only [amaxL] at hr
      obtain ⟨b, hb, hr1⟩ := bind_some hr
      obtain rfl := asIntK_ok hb (hv 0 x v rfl rfl)
      obtain ⟨n, h1, h2⟩ := amax_go_ok (P := P) mx (vs := vs) hr1 (by simpa using hl) fun j y' v' hy hv' => hv (j + 1) y' v' (by simpa using hy) (by simpa using hv')
      refine ⟨n, h1, ?_⟩
      cases mx <;> simpa [Builtin.max_, Builtin.min_] using h2

theorem alookM_ok {k : IntKind} {n : Int} : ∀ {m : List (Int × Nat)} {K : AV → Option R} {r : R} {es : List MapEntry} {i : Nat}, alookM n m K = some r → es.map (fun e => (e.key, e.val)) = m.map (fun p => (.int k p.1, .func (.func p.2) #[] #[])) →
    ∃ v, K v = some r ∧ ((Instr.findNow (.int k) (.int k n) es i = some none ∧ ∀ z, VRel B κ h w v (.tuple #[z, .bool false])) ∨ ∃ j val, Instr.findNow (.int k) (.int k n) es i = some (some (j, val)) ∧ VRel B κ h w v (.tuple #[val, .bool true]))
  | [], K, r, [], i, hq, he => ⟨_, hq, .inl ⟨rfl, fun z => .tuple _ _ rfl (fun j x hx => by
      match j, hx with
      | 0, hx => cases hx; exact .undef _
      | 1, hx => cases hx; exact .t _ _ (.bool _))⟩⟩
  | [], K, r, e :: es, i, hq, he => by simp at he
  | p :: m, K, r, [], i, hq, he => by simp at he
  | p :: m, K, r, e :: es, i, hq, he => by
    simp only [List.map_cons, List.cons.injEq, Prod.mk.injEq] at he
    obtain ⟨⟨h1, h2⟩, h3⟩ := he
    simp only [alookM, cnd_eq] at hq
    split at hq
    · rename_i hn
      refine ⟨_, hq, .inr ⟨i, .func (.func p.2) #[] #[], ?_, .tuple _ _ rfl (fun j x hx => ?_)⟩⟩
      · simp only [Instr.findNow, Instr.sameNow, h1, h2, hn, if_true, beq_self_eq_true]
      · match j, hx with
        | 0, hx => cases hx; exact .func _ _ _ #[] #[] rfl rfl (fun j x hx => by simp at hx) (fun j x hx => by simp at hx)
        | 1, hx => cases hx; exact .t _ _ (.bool _)
    · rename_i hn
      obtain ⟨v, g1, g3⟩ := alookM_ok (i := i + 1) hq h3
      refine ⟨v, g1, ?_⟩
      simp only [Instr.findNow, Instr.sameNow, h1, if_true]
      rw [show (n == p.1) = false by simpa using hn]
      exact g3

theorem run_getMap {P : Program} {w : World} {b : Nat} {es : Array MapEntry} {clock : Nat} (hb : w.heap[b]? = some (.map es clock)) : (getObj b).run P w = .ok (.map es clock) w := by simp [getObj, Sem.run, hb]
theorem bytes_loop (P : Program) (w : World) (f : Nat → Value) : ∀ (js : List Nat) (bs : List UInt8) (s : ByteArray), js.length = bs.length → (∀ (k j : Nat) (b : UInt8), js[k]? = some j → bs[k]? = some b → ∃ n : Int, f j = .int .u8 n ∧ UInt8.ofNat n.toNat = b) →
    (forIn js s (fun a y => match f a with
      | .int .u8 n => pure (ForInStep.yield (y.push (UInt8.ofNat n.toNat)))
      | _ => (fun _ => ForInStep.yield y) <$> (stuck "bytesToString: byte expected" : Sem PUnit)) : Sem ByteArray).run P w = .ok (bs.foldl ByteArray.push s) w
  | [], [], s, _, _ => by simp
  | v :: vs, b :: bs, s, hl, h => by
    obtain ⟨n, hf, hb⟩ := h 0 v b rfl rfl
    have ih := bytes_loop P w f vs bs (s.push b) (by simpa using hl) fun k j b hv hb => h (k + 1) j b (by simpa using hv) (by simpa using hb)
    rw [List.forIn_cons]
    simp [hf, hb, ih]
  | [], _ :: _, _, hl, _ => by simp at hl
  | _ :: _, [], _, hl, _ => by simp at hl
def byteV : Option (List Tree) → Value
  | some [.int .u8 n] => .int .u8 n
  | _ => .int .u8 0
theorem aconvB_ok {src dst : TypeId} {x : AV} {K : AV → Option R} {r : R} (hq : aconvB P h src dst x K = some r) (hh : HRel B κ h w) {vx : Value} (hx : VRel B κ h w x vx) :
    ∃ v val, K v = some r ∧ (convert src dst vx).run P w = .ok val w ∧ VRel B κ h w v val := by
  unfold aconvB at hq
  simp only [cnd_eq] at hq
  split at hq
  · rename_i e hu1 hu2
    split at hq
    · rename_i hu3
      obtain ⟨es, hq1, hs⟩ := elems_ok hq hh hx
      obtain ⟨hb, hK⟩ := ite_some hq1
      obtain ⟨_, a, cap, rfl, hcap, hc⟩ := hs
      refine ⟨_, .string (bytesOf es), hK, ?_, .t _ _ (.str _)⟩
      have hby : ∀ (j : Nat) (e : List Tree), es[j]? = some e → ∃ n : Int, e = [.int .u8 n] := fun j e he => by
        have := (List.all_eq_true.1 hb) e (List.mem_of_getElem? he)
        unfold isByteL at this
        split at this
        · exact ⟨_, rfl⟩
        · cases this
      rcases hc with rfl | ⟨b, off, rfl, hlt, hcells⟩
      · cases a with
        | none => simp [convert, run_underlying hu1, run_underlying hu2, run_underlying hu3, Conv.bytesToString, bytesOf]
        | some a => simp [convert, run_underlying hu1, run_underlying hu2, run_underlying hu3, Conv.bytesToString, bytesOf, loadCells, loadCellsFrom]
      · have hcell : ∀ j, j < es.length → ∃ n : Int, es[j]? = some [.int .u8 n] ∧ w.cell? ⟨b, off + j, none⟩ = some (.int .u8 n) := fun j hj => by
          obtain ⟨n, hn⟩ := hby j es[j] (List.getElem?_eq_getElem hj)
          have he : es[j]? = some [.int .u8 n] := by rw [List.getElem?_eq_getElem hj, hn]
          obtain ⟨u, hu, ht⟩ := hcells j [.int .u8 n] 0 (.int .u8 n) he rfl
          cases ht
          exact ⟨n, he, by simpa using hu⟩
        have hl := run_loadCells (P := P) w ⟨b, off, none⟩ es.length (fun j => byteV es[j]?) (fun j hj => by
            obtain ⟨n, he, hc⟩ := hcell j hj
            unfold Addr.add
            split
            · rename_i h0; subst h0; simp only [he, byteV]; simpa using hc
            · simp only [he, byteV]; simpa using hc)
        have hloop := bytes_loop P w (fun j => byteV es[j]?) (List.range es.length) (es.map byteL) ByteArray.empty (by simp) (fun k j bb hj hbb => by
          obtain ⟨h1, h2⟩ := List.getElem?_eq_some_iff.1 hj
          have h1 : k < es.length := by simpa using h1
          have h2 : j = k := by simpa using h2.symm
          subst h2
          obtain ⟨n, he, _⟩ := hcell j h1
          rw [List.getElem?_map, he] at hbb
          simp only [Option.map_some, Option.some.injEq] at hbb
          exact ⟨n, by simp [he, byteV], by rw [← hbb]; rfl⟩)
        simp [convert, run_underlying hu1, run_underlying hu2, run_underlying hu3, Conv.bytesToString, hl]
        exact (congrArg (fun z => z.andThen fun a w' => Result.ok (Value.string a) w') (show _ = Result.ok (bytesOf es) w from hloop)).trans rfl
    · cases hq
  · exact aconvert_ok (P := P) hq hx
theorem aindexS_ok {t : TypeId} {x ix : AV} {K : AV → Option R} {r : R} (hq : aindexS P t x ix K = some r) {vx vi : Value} (hx : VRel B κ h w x vx) (hi : VRel B κ h w ix vi) :
    ∃ v val, K v = some r ∧ (Instr.index t vx vi).run P w = .ok val w ∧ VRel B κ h w v val := by
  unfold aindexS at hq
  simp only [cnd_eq] at hq
  split at hq
  · rename_i s k i hu
    obtain ⟨⟨h0, h1⟩, hq1⟩ := ite_some hq
    cases hx with | t _ _ hx =>
    cases hx
    cases hi with | t _ _ hi =>
    cases hi
    have hlt : i.toNat < s.size := by omega
    refine ⟨_, .int .u8 (byteAt s i.toNat), hq1, ?_, .t _ _ (.int _ _)⟩
    have hb : s[i.toNat]? = some s[i.toNat] := by simp [hlt]
    simp [Instr.index, Go.asIntOf, run_underlying hu, h0, hb, byteAt]
  · cases hq
theorem alookup_ok {t : TypeId} {m x : AV} {K : AV → Option R} {r : R} (hq : alookup P t m x K = some r) {vm vx : Value} (hm : VRel B κ h w m vm) (hx : VRel B κ h w x vx) :
    ∃ v val, K v = some r ∧ (Instr.lookup t vm vx true).run P w = .ok val w ∧ VRel B κ h w v val := by
  unfold alookup at hq
  simp only [cnd_eq] at hq
  split at hq
  · rename_i k l k' n
    obtain ⟨⟨rfl, hT⟩, hq1⟩ := ite_some hq
    clear hq
    cases hx with | t _ _ hx =>
    cases hx
    cases hm with | t _ _ hm =>
    cases hm with | mp _ _ b es clock h1 h2 h3 h4 =>
    unfold mapTy at hT
    split at hT
    · rename_i key elem hu
      rw [Bool.and_eq_true] at hT
      obtain ⟨hT, hz⟩ := hT
      split at hT
      · rename_i k2 hk
        obtain rfl : k2 = k' := by simpa using hT
        obtain ⟨i, z, hi, hz⟩ : ∃ i z, P.info? elem = some i ∧ i.zero = some z := by
          cases hi : P.info? elem with
          | none => simp [hi] at hz
          | some i => cases hz' : i.zero with
            | none => simp [hi, hz'] at hz
            | some z => exact ⟨i, z, rfl, hz'⟩
        obtain ⟨v, g1, g3⟩ := alookM_ok (B := B) (κ := κ) (h := h) (w := w) (i := 0) hq1 h4
        have hck : ∀ (e : Bool), (Instr.checkKey e 10000 key (.int k2 n)).run P w = .ok () w := fun e => by
          have : ∀ m : Nat, (Instr.checkKey e (m + 1) key (.int k2 n)).run P w = .ok () w := fun m => by simp [Instr.checkKey, run_underlying hk]
          exact this 9999
        rcases g3 with ⟨g3, g2⟩ | ⟨j, val, g3, g2⟩
        · refine ⟨v, _, g1, ?_, g2 z⟩
          simp [Instr.lookup, run_underlying hu, run_getMap h3, hck, Instr.findKey, run_underlying hk, g3, zeroValue, typeInfo, hi, hz]
        · refine ⟨v, _, g1, ?_, g2⟩
          simp [Instr.lookup, run_underlying hu, run_getMap h3, hck, Instr.findKey, run_underlying hk, g3]
      · cases hT
    · cases hT
  · cases hq

/-- A slice literal of closures. -/
theorem buildBsl_op {t : TypeId} {len : Nat} {parts : Array (Nat × Operand)} {K : AV → Heap → Option R} {r : R} (hq : abuildBsl P t h len (parts.toList.map fun p => (p.1, ev env p.2)) K = some r) (hr : Rel B N κ env h a w) (o : Oper) (ho : o.op = .buildSlice t len parts) :
    ∃ v h' κ' val w', K v h' = some r ∧ (execOp a.eval o).run P w = .ok (.value val) w' ∧ VRel B κ' h' w' v val ∧ HRel B κ' h' w' ∧ Ext κ h w κ' h' w' := by
  unfold execOp
  rw [ho]
  obtain ⟨v, h', κ', val, w', h1, h2, h3, h4, h5⟩ := abuildBsl_ok (P := P) hq (parts_ok hr parts).1 (parts_ok hr parts).2 hr.heap
  exact ⟨v, h', κ', val, w', h1, by simp [h2], h3, h4, h5⟩

/-- What an operation that leaves the abstract heap does. -/
theorem qop_ok {op : Op} {K : AV → Option R} {r : R} (hq : qop P env h op K = some r) (hr : Rel B N κ env h a w) (o : Oper) (ho : o.op = op) :
    ∃ v val w', K v = some r ∧ (execOp a.eval o).run P w = .ok (.value val) w' ∧ VRel B κ h w' v val ∧ HRel B κ h w' ∧ Ext κ h w κ h w' := by
  have hx := Ext.refl κ h w
  unfold execOp
  rw [ho]
  unfold qop at hq
  try simp only [cnd_eq] at hq
  split at hq
  · exact ⟨_, _, w, hq, rfl, ev_ok hr _, hr.heap, hx⟩
  · exact ⟨_, _, w, hq, rfl, ev_ok hr _, hr.heap, hx⟩
  · rename_i c x y
    obtain ⟨t, ht, hq1⟩ := bind_some hq
    have hc := asBool_ok ht (ev_ok hr c)
    cases t
    · exact ⟨_, _, w, by simpa using hq1, by simp [hc, Go.asBool], ev_ok hr y, hr.heap, hx⟩
    · exact ⟨_, _, w, by simpa using hq1, by simp [hc, Go.asBool], ev_ok hr x, hr.heap, hx⟩
  · rename_i t parts
    obtain ⟨v, val, h1, h2, h3⟩ := abuild_ok (P := P) hq (parts_ok hr parts).1 (parts_ok hr parts).2
    exact ⟨v, val, w, h1, by simp [h2], h3, hr.heap, hx⟩
  · rename_i t len parts
    obtain ⟨v, val, w', h1, h2, h3, h4, h5⟩ := abuildSlice_ok (P := P) hq (parts_ok hr parts).1 (parts_ok hr parts).2 hr.heap
    exact ⟨v, val, w', h1, by simp [h2], h3, h4, h5⟩
  · obtain ⟨v, val, h1, h2, h3⟩ := aload_ok hq hr.heap (ev_ok hr _)
    have h1 := retV_ok h1
    exact ⟨v, val, w, h1, by simp [h2], h3, hr.heap, hx⟩
  · obtain ⟨v, val, h1, h2, h3⟩ := abin_ok hq (ev_ok hr _) (ev_ok hr _) _ _
    exact ⟨v, val, w, h1, by simp only [Sem.run_bind] at h2 ⊢; rw [h2]; rfl, h3, hr.heap, hx⟩
  · obtain ⟨v, val, h1, h2, h3⟩ := aun_ok (P := P) hq (ev_ok hr _)
    exact ⟨v, val, w, h1, by simp [h2], h3, hr.heap, hx⟩
  · obtain ⟨v, val, h1, h2, h3⟩ := aconvB_ok (P := P) hq hr.heap (ev_ok hr _)
    exact ⟨v, val, w, h1, by simp [h2], h3, hr.heap, hx⟩
  · rename_i fn first captured
    split at hq
    · cases hq
    · refine ⟨_, _, w, hq, by simp [Instr.makeFunc], .func _ _ _ _ _ (evs_ok hr first).1 (evs_ok hr captured).1 (evs_ok hr first).2 (evs_ok hr captured).2, hr.heap, hx⟩
  · obtain ⟨v, val, h1, h2, h3⟩ := aslice_ok (P := P) hq (ev_ok hr _) (vopt_ok hr _) (vopt_ok hr _) (vopt_ok hr _) hr.heap
    exact ⟨v, val, w, h1, by simp [h2], h3, hr.heap, hx⟩
  · obtain ⟨v, val, h1, h2, h3⟩ := afield_ok (P := P) hq (ev_ok hr _)
    exact ⟨v, val, w, h1, by simp [h2], h3, hr.heap, hx⟩
  · obtain ⟨v, val, h1, h2, h3⟩ := aindex_ok (P := P) hq (ev_ok hr _) (ev_ok hr _) hr.heap
    exact ⟨v, val, w, h1, by simp [h2], h3, hr.heap, hx⟩
  · rename_i t i
    split at hq
    · rename_i vs hvs
      split at hq
      · rename_i v hv
        have ht := ev_ok hr t
        rw [hvs] at ht
        generalize hgt : a.eval t = tv at ht
        cases ht with
        | tuple _ arr hs hall =>
          have hi : i < arr.size := by rw [hs]; exact lt_of_get hv
          have he : arr[i]? = some (arr.getD i undef) := by rw [Array.getElem?_eq_getElem hi]; simp only [Array.getD, hi, dif_pos]; rfl
          have hrun : (Instr.extract (.tuple arr) i).run P w = .ok (arr.getD i undef) w := by
            show (match arr[i]? with | some v => (pure v : Sem Value) | none => stuck "Extract: no such component").run P w = _
            rw [he]
            rfl
          exact ⟨v, _, w, hq, by simp only [Sem.run_bind, hgt, hrun, Result.andThen_ok, Sem.run_pure], hall i v hv, hr.heap, hx⟩
      · cases hq
    · cases hq
  · rename_i x
    have hv := ev_ok hr x
    split at hq
    · rename_i i off he
      rw [he] at hv
      generalize hg : a.eval x = vx at hv
      cases hv with
      | ptr _ _ b base hk hb => exact ⟨_, _, w, hq, by simp [hg], .ptr i off b base hk hb, hr.heap, hx⟩
    · rename_i s c off he
      rw [he] at hv
      generalize hg : a.eval x = vx at hv
      cases hv with
      | eptr _ _ _ b base u h1 h2 h3 h4 h5 => exact ⟨_, _, w, hq, by simp [hg], .eptr s c off b base u h1 h2 h3 h4 h5, hr.heap, hx⟩
    · rename_i f aa bb he
      rw [he] at hv
      generalize hg : a.eval x = vx at hv
      cases hv with
      | func _ _ _ fs cs h1 h2 h3 h4 => exact ⟨_, _, w, hq, by simp [hg], .func _ _ _ fs cs h1 h2 h3 h4, hr.heap, hx⟩
    · rename_i i he
      rw [he] at hv
      generalize hg : a.eval x = vx at hv
      cases hv with
      | yld _ b base hk hb => exact ⟨_, _, w, hq, by simp [hg], .yld i b base hk hb, hr.heap, hx⟩
    · rename_i i ver k off he
      rw [he] at hv
      generalize hg : a.eval x = vx at hv
      cases hv with
      | rptr _ _ _ _ _ h1 h2 h3 =>
        obtain ⟨p, rfl⟩ := h1
        exact ⟨_, _, w, hq, by simp [hg], .rptr i ver k off _ ⟨p, rfl⟩ h2 h3, hr.heap, hx⟩
    · cases hq
  · obtain ⟨v, val, h1, h2, h3⟩ := alookup_ok (P := P) hq (ev_ok hr _) (ev_ok hr _)
    exact ⟨v, val, w, h1, by simp [h2], h3, hr.heap, hx⟩
  · obtain ⟨v, val, h1, h2, h3⟩ := aindexS_ok (P := P) hq (ev_ok hr _) (ev_ok hr _)
    exact ⟨v, val, w, h1, by simp [h2], h3, hr.heap, hx⟩
  · rename_i args argTypes
    split at hq
    · rename_i x t hxa hta
      obtain ⟨v, val, h1, h2, h3⟩ := alen_ok (P := P) hq (ev_ok hr x) hr.heap o.type
      have e1 : args = #[x] := by cases args; simp_all
      have e2 : argTypes = #[t] := by cases argTypes; simp_all
      subst e1 e2
      exact ⟨v, val, w, h1, by simp [resolve, invoke, builtin, h2], h3, hr.heap, hx⟩
    · cases hq
  · rename_i args argTypes
    obtain ⟨n, h1, h2⟩ := amaxL_ok (P := P) true (vs := (args.map a.eval).toList) hq (by simp) (fun j y v hy hv => by
      have := (evs_ok hr args).2 j y hy
      rwa [getD_arr _ j undef hv] at this) argTypes o.type
    simp only [if_true] at h2
    exact ⟨_, _, w, h1, by
      rw [Array.toArray_toList] at h2
      simp [resolve, invoke, builtin, h2], .t _ _ (.int _ _), hr.heap, hx⟩
  · rename_i args argTypes
    obtain ⟨n, h1, h2⟩ := amaxL_ok (P := P) false (vs := (args.map a.eval).toList) hq (by simp) (fun j y v hy hv => by
      have := (evs_ok hr args).2 j y hy
      rwa [getD_arr _ j undef hv] at this) argTypes o.type
    simp only [Bool.false_eq_true, if_false] at h2
    exact ⟨_, _, w, h1, by
      rw [Array.toArray_toList] at h2
      simp [resolve, invoke, builtin, h2], .t _ _ (.int _ _), hr.heap, hx⟩
  · cases hq

theorem nilK_ok {v : AV} {K : Bool → Option R} {r : R} (hq : nilK v K = some r) {val : Value} (hv : VRel B κ h w v val) {t e : TypeId} (hu : P.underlying t = some (.slice e)) :
    ∃ b, K b = some r ∧ (∀ ox oy, (eqGuard .eql t ox oy val (.slice none 0 0)).run P w = .ok () w) ∧ (binOp .eql t val (.slice none 0 0)).run P w = .ok (.bool b) w := by
  have hrun : ∀ (a : Option Addr) (n c : Nat), (∀ ox oy, (eqGuard .eql t ox oy (.slice a n c) (.slice none 0 0)).run P w = .ok () w) ∧ (binOp .eql t (.slice a n c) (.slice none 0 0)).run P w = .ok (.bool a.isNone) w := by
    intro a n c
    have he : (Op.equalIn (9999 + 1) t (.slice a n c) (.slice none 0 0)).run P w = .ok a.isNone w := by
      rw [Op.equalIn]
      cases a <;> simp [run_underlying hu]
    refine ⟨fun ox oy => eqGuard_ok rfl, ?_⟩
    simp only [binOp, Op.equal, Op.maxDepth, Sem.run_bind]
    rw [he]
    rfl
  unfold nilK at hq
  try simp only [cnd_eq] at hq
  split at hq
  · rename_i z es
    cases hv with
    | t _ _ ht =>
      split at hq
      · rename_i hne
        cases ht with
        | nil => simp at hne
        | sl => exact ⟨_, hq, hrun (some _) _ _⟩
      · obtain ⟨h1, h2⟩ := both_some hq
        cases ht with
        | nil _ cap a0 => exact ⟨a0.isNone, by cases a0 <;> assumption, hrun _ _ _⟩
        | sl => exact ⟨_, h2, hrun (some _) _ _⟩
  · obtain ⟨h1, h2⟩ := both_some hq
    cases hv with
    | nilsl a0 => exact ⟨a0.isNone, by cases a0 <;> assumption, hrun _ _ _⟩
  · cases hq

theorem nil_tree {v : Value} (z : Nat) (hv : VRel B κ h w .nilsl v) : VRel B κ h w (.t (.sl z [])) v := by
  cases hv with | nilsl a0 => exact .t _ _ (.nil _ _ _)
theorem nilTs_ok {P : Program} {tf : TypeId → Bool} : ∀ {ts : List TypeId} {cs : List AV} {vs : List Value}, cs.length = vs.length → (∀ (j : Nat) (x : AV) (v : Value), cs[j]? = some x → vs[j]? = some v → VRel B κ h w x v) →
    (nilTs P tf ts cs).length = vs.length ∧ ∀ (j : Nat) (x : AV) (v : Value), (nilTs P tf ts cs)[j]? = some x → vs[j]? = some v → VRel B κ h w x v
  | ts, [], vs, hl, hv => ⟨hl, fun j x v hx => by simp [nilTs] at hx⟩
  | ts, c :: cs, [], hl, hv => by simp at hl
  | ts, c :: cs, u :: vs, hl, hv => by
    obtain ⟨i1, i2⟩ := nilTs_ok (P := P) (tf := tf) (ts := ts.tail) (cs := cs) (vs := vs) (by simpa using hl) fun j x v hx hv' => hv (j + 1) x v (by simpa using hx) (by simpa using hv')
    refine ⟨by simp [nilTs, i1], fun j x v hx hv' => ?_⟩
    cases j with
    | zero =>
      have h0 := hv 0 c u rfl rfl
      simp only [nilTs, List.getElem?_cons_zero, Option.some.injEq] at hx hv'
      subst hx hv'
      cases c <;> first | exact h0 | (simp only; split; exact nil_tree _ h0; exact h0)
    | succ j =>
      simp only [nilTs, List.getElem?_cons_succ] at hx hv'
      exact i2 j x v hx hv'
theorem nilCells_ok {P : Program} {tf : TypeId → Bool} {ts : List TypeId} {cs : List AV} {arr : Array Value} (hc : CellsRel B κ h w cs arr) : CellsRel B κ h w (nilTs P tf ts cs) arr := by
  obtain ⟨h1, h2⟩ := nilTs_ok (P := P) (tf := tf) (ts := ts) (cs := cs) (vs := arr.toList) (by simp [hc.1]) fun j x v hx hv => by
    have := hc.2 j x hx
    rwa [getD_arr arr.toList j undef hv] at this
  refine ⟨by simp [h1], fun j x hx => ?_⟩
  have hj : j < arr.size := by have := (List.getElem?_eq_some_iff.1 hx).1; rw [h1] at this; simpa using this
  exact h2 j x _ hx (by simp [Array.getD, hj])
theorem nilV_ok {P : Program} {tf : TypeId → Bool} {t : TypeId} {v : AV} {u : Value} (hv : VRel B κ h w v u) : VRel B κ h w (nilV P tf t v) u := by
  cases v with
  | agg cs =>
    cases hv with | agg _ vs h1 h2 =>
    obtain ⟨k1, k2⟩ := nilCells_ok (P := P) (tf := tf) (ts := leafTys P 16 t) (show CellsRel B κ h w cs vs from ⟨h1, h2⟩)
    exact .agg _ _ k1 k2
  | nilsl =>
    simp only [nilV]
    split
    · exact nil_tree _ hv
    · exact hv
  | _ => exact hv
theorem hop_ok {op : Op} {K : AV → Heap → Option R} {r : R} {tf : TypeId → Bool} (hq : hop P tf env h op K = some r) (hr : Rel B N κ env h a w) (o : Oper) (ho : o.op = op) :
    ∃ v h' κ' val w', K v h' = some r ∧ ((execOp a.eval o).run P w = .ok (.value val) w' ∨ ((execOp a.eval o).run P w = .ok .skip w' ∧ val = undef)) ∧ VRel B κ' h' w' v val ∧ HRel B κ' h' w' ∧ Ext κ h w κ' h' w' := by
  unfold execOp
  rw [ho]
  unfold hop at hq
  try simp only [cnd_eq] at hq
  split at hq
  · rename_i t
    split at hq
    · rename_i z hz
      obtain ⟨i, v, hi, hv, hc⟩ := zeroCells_ok (B := B) (κ := κ) (h := h) (w := w) hz
      obtain ⟨v', h', κ', h1, h2, h3, h4⟩ := allocBox_ok hq hr.heap (nilCells_ok hc) t
      exact ⟨v', h', κ', _, _, h1, .inl (by simp [Instr.alloc, zeroValue, typeInfo, hi, hv, newVar, newRow]), h2, h3, h4⟩
    · cases hq
  · rename_i t x
    split at hq
    · rename_i cs hcs
      obtain ⟨v', h', κ', h1, h2, h3, h4⟩ := allocBox_ok hq hr.heap (nilCells_ok (cells_ok hcs (ev_ok hr x))) t
      exact ⟨v', h', κ', _, _, h1, .inl (by simp [Instr.box, newVar, newRow]), h2, h3, h4⟩
    · cases hq
  · obtain ⟨h', κ', w', h1, h2, h3, h4⟩ := astore_ok (P := P) hq hr.heap (ev_ok hr _) (nilV_ok (ev_ok hr _))
    exact ⟨_, h', κ', undef, w', h1, .inr ⟨by simp [h2], rfl⟩, .undef _, h3, h4⟩
  · rename_i t x ty
    split at hq
    · rename_i e hu
      obtain ⟨b, h1, h2, h3⟩ := nilK_ok (P := P) hq (ev_ok hr x) hu
      refine ⟨_, h, κ, .bool b, w, h1, .inl ?_, .t _ _ (.bool _), hr.heap, Ext.refl _ _ _⟩
      have e1 : a.eval (.const (.slice none 0 0)) = .slice none 0 0 := rfl
      simp only [e1]
      simp [h2, h3]
    · cases hq
  · rename_i args argTypes
    split at hq
    · rename_i s x t t' hxa hta
      obtain ⟨rfl, hq1⟩ := ite_some hq
      obtain ⟨v, h', κ', val, w', h1, h2, h3, h4, h5⟩ : ∃ v h' κ' val w', K v h' = some r ∧ (Builtin.append_ #[t', t'] o.type #[a.eval s, a.eval x]).run P w = .ok val w' ∧ VRel B κ' h' w' v val ∧ HRel B κ' h' w' ∧ Ext κ h w κ' h' w' := by
        split at hq1
        · exact aappendIn_ok (P := P) hq1 hr.heap (ev_ok hr s) (ev_ok hr x) o.type
        · exact aappend_ok (P := P) hq1 hr.heap (ev_ok hr s) (ev_ok hr x) o.type
      have e1 : args = #[s, x] := by cases args; simp_all
      have e2 : argTypes = #[t', t'] := by cases argTypes; simp_all
      subst e1 e2
      exact ⟨v, h', κ', val, w', h1, .inl (by simp [resolve, invoke, builtin, h2]), h3, h4, h5⟩
    · cases hq
  · rename_i args argTypes
    split at hq
    · rename_i x t hxa hta
      obtain ⟨h', w', h1, h2, h3, h4⟩ := aclear_ok (P := P) hq hr.heap (ev_ok hr x) o.type
      have e1 : args = #[x] := by cases args; simp_all
      have e2 : argTypes = #[t] := by cases argTypes; simp_all
      subst e1 e2
      exact ⟨_, h', κ, .tuple #[], w', h1, .inl (by simp [resolve, invoke, builtin, h2]), .tuple _ _ rfl (fun j x hx => by simp at hx), h3, h4⟩
    · cases hq
  · rename_i args argTypes
    split at hq
    · rename_i d x t t' hxa hta
      obtain ⟨v, h', val, w', h1, h2, h3, h4, h5⟩ := acopy_ok (P := P) (t' := t') hq hr.heap (ev_ok hr d) (ev_ok hr x) o.type
      have e1 : args = #[d, x] := by cases args; simp_all
      have e2 : argTypes = #[t, t'] := by cases argTypes; simp_all
      subst e1 e2
      exact ⟨v, h', κ, val, w', h1, .inl (by simp [resolve, invoke, builtin, h2]), h3, h4, h5⟩
    · cases hq
  · obtain ⟨v, h', κ', val, w', h1, h2, h3, h4, h5⟩ := amake_ok (P := P) hq hr.heap (ev_ok hr _) (ev_ok hr _)
    exact ⟨v, h', κ', val, w', h1, .inl (by simp [h2]), h3, h4, h5⟩
  · cases hq

theorem boxImm_ok {t : TypeId} {x : Operand} {K : AV → Option R} {r : R} (hq : boxImm P t (ev env x) h K = some r) (hr : Rel B N κ env h a w) (o : Oper) (ho : o.op = .box t x) :
    ∃ v κ' val w', K v = some r ∧ (execOp a.eval o).run P w = .ok (.value val) w' ∧ VRel B κ' h w' v val ∧ HRel B κ' h w' ∧ Ext κ h w κ' h w' := by
  unfold boxImm at hq
  try simp only [cnd_eq] at hq
  split at hq
  · rename_i cs n hcs hn
    obtain ⟨hl, hq⟩ := ite_some hq
    have hc := cells_ok hcs (ev_ok hr x)
    obtain ⟨xs, hK, hxl, _, hT⟩ := convs_ok (P := P) hq hr.heap (vs := (a.eval x).cells.toList) (by simpa using hc.1) (cellsRel_list hc)
    have x1 : Ext κ h w κ h (w.alloc (.cells (a.eval x).cells t)) := ext_alloc hr.heap _
    have hh1 : HRel B κ h (w.alloc (.cells (a.eval x).cells t)) := hrel_grow hr.heap x1 fun b hb => heap_alloc_lt w _ hb
    have hnew : (w.alloc (.cells (a.eval x).cells t)).heap[w.heap.size]? = some (.cells (a.eval x).cells t) := by show (w.heap.push (.cells (a.eval x).cells t))[w.heap.size]? = _; simp
    refine ⟨_, κ, .pointer (some ⟨w.heap.size, 0, none⟩), w.alloc (.cells (a.eval x).cells t), hK, ?_, ?_, hh1, x1⟩
    · unfold execOp
      rw [ho]
      simp [Instr.box, newVar, newRow]
    · have hsz : xs.length = (a.eval x).cells.size := by rw [hxl]; exact hc.1.symm
      refine .eptr n xs 0 w.heap.size 0 (fun c => (a.eval x).cells.getD c undef) (by omega) (by simp [World.size_alloc]) ?_ (fun c y hy => ?_) (fun c y hy => ?_)
      · rintro (hb | ⟨i, base, ob, y1, _, _⟩)
        · have := hr.heap.ltB _ hb; omega
        · have := hr.heap.lt i _ _ y1; omega
      · have hlt : c < (a.eval x).cells.size := by rw [← hsz]; exact lt_of_get hy
        rw [Nat.zero_add, cell_of_block hnew hlt]
      · have hlt : c < (a.eval x).cells.size := by rw [← hsz]; exact lt_of_get hy
        have := hT c y ((a.eval x).cells.getD c undef) hy (by simp [Array.getD, hlt])
        refine TRel.ext x1 (this.less ?_)
        rintro b (hb | hb)
        · exact .inl hb
        · exact .inr ⟨rfl, hb⟩
  · cases hq

theorem allocImm_ok {t : TypeId} {K : AV → Heap → Option R} {r : R} (hq : allocImm P t h K = some r) (hr : Rel B N κ env h a w) (o : Oper) (ho : o.op = .alloc t) :
    ∃ v h' κ' val w', K v h' = some r ∧ (execOp a.eval o).run P w = .ok (.value val) w' ∧ VRel B κ' h' w' v val ∧ HRel B κ' h' w' ∧ Ext κ h w κ' h' w' := by
  unfold allocImm at hq
  try simp only [cnd_eq] at hq
  split at hq
  · rename_i z n hz hn
    obtain ⟨⟨hn0, hl⟩, hq⟩ := ite_some hq
    obtain ⟨i, v, hi, hv, hc⟩ := zeroCells_ok (B := B) (κ := κ) (h := h) (w := w) hz
    obtain ⟨xs, hK, hxl, _, hT⟩ := convs_ok (P := P) hq hr.heap (vs := v.cells.toList) (by simpa using hc.1) (cellsRel_list hc)
    have h5 : ∀ b, b < w.heap.size → (w.alloc (.cells v.cells t)).heap[b]? = w.heap[b]? := fun b hb => heap_alloc_lt w _ hb
    have x2 : Ext κ h w (κ ++ [some (w.heap.size, 0)]) (h ++ [.row false 0 n [xs]]) (w.alloc (.cells v.cells t)) :=
      push_ext (w' := w.alloc (.cells v.cells t)) hr.heap rfl rfl rfl (by simp) h5 fun b base e => by injection e with e; injection e with e; omega
    have hsz : v.cells.size = n := by rw [hc.1, hl]
    have hh2 := push_hrel hr.heap h5 x2 (fun b base e => by injection e with e; injection e with e; subst e; exact ⟨Nat.le_refl _, by simp⟩)
      (orel_row hn0 (heap_alloc_at w _) (by simp [hsz]) ⟨fun j e he => by
          cases j with
          | zero => simp at he; subst he; rw [hxl, hl]
          | succ j => simp at he, fun j e c y he hy => by
          cases j with
          | zero =>
            simp at he
            subst he
            have hc2 : c < v.cells.size := by rw [hsz, ← hl, ← hxl]; exact lt_of_get hy
            have := hT c y (v.cells.getD c undef) hy (by simp [Array.getD, hc2])
            have t2 := TRel.ext x2 (this.less (A' := fun b => B b ∨ Ex κ h b) (by
              rintro b (hb | hb)
              · exact .inl hb
              · exact .inr ⟨rfl, hb⟩))
            simpa using t2
          | succ j => simp at he⟩)
    refine ⟨_, _, _, .pointer (some ⟨w.heap.size, 0, none⟩), w.alloc (.cells v.cells t), hK, ?_, ?_, hh2, x2⟩
    · unfold execOp
      rw [ho]
      simp [Instr.alloc, zeroValue, typeInfo, hi, hv, newVar, newRow]
    · refine .rptr _ _ _ _ _ ⟨_, rfl⟩ ⟨_, snoc_new h _, Nat.le_refl _⟩ fun o' ho' _ => ?_
      rw [snoc_new h _] at ho'
      cases ho'
      exact ⟨w.heap.size, 0, by rw [← hr.heap.len]; exact snoc_new κ _, by simp, rfl, by simp [AObj.len]⟩
  · cases hq

end Ab
