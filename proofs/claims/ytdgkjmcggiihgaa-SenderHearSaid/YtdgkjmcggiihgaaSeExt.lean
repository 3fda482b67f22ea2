/- A part of the proof: see the last text. -/
import Derived.Test.YtdgkjmcggiihgaaProg
import Derived.Test.YtdgkjmcggiihgaaSeX
import Derived.Test.YtdgkjmcggiihgaaAbS
import Derived.Test.YtdgkjmcggiihgaaTryShelf
import Derived.Deep.LoopGhost
import Derived.Below
import Derived.WideMake
import Derived.WalkKit
namespace Ab
open Go Go.Proofs Go.Shelf Go.RowKit Go.Lib
set_option maxRecDepth 100000
theorem run_insert_new {P : Program} {t key elem : TypeId} {kd : IntKind} (hu : P.underlying t = some (.map key elem)) (hk : P.underlying key = some (.int kd)) {w : World} {b : Nat} {es : Array MapEntry} {clock : Nat} (hb : w.heap[b]? = some (.map es clock)) (n : Int) (v : Value)
    (hnew : Instr.findNow (.int kd) (.int kd n) es.toList 0 = some none) :
    (Instr.mapUpdate t (.map (some b)) (.int kd n) v).run P w = .ok () (w.putObj b (.map (es.push { key := .int kd n, val := v, born := clock }) (clock + 1))) := by
  have hck : (Instr.checkKey false 10000 key (.int kd n)).run P w = .ok () w := by
    have : ∀ m : Nat, (Instr.checkKey false (m + 1) key (.int kd n)).run P w = .ok () w := fun m => by simp [Instr.checkKey, run_underlying hk]
    exact this 9999
  simp only [Instr.mapUpdate, Sem.run_bind, run_underlying hu, Result.andThen_ok, run_getMap hb, hck, Instr.findKey, run_underlying hk, hnew, Sem.run_pure]
  simp [setObj, Sem.run, hb, World.putObj]
theorem handlers_calls (w : World) : Calls Try.prog 42 #[] w fun e w' => ∃ b, e = .returned (.map (some b)) ∧ w.heap.size ≤ b ∧ b < w'.heap.size ∧ Below w.heap.size w w' ∧ ∃ es clock, w'.heap[b]? = some (.map es clock) ∧ es.toList.map (fun e => (e.key, e.val)) = [(.int .i64 2, .func (.func 66) #[] #[]), (.int .i64 3, .func (.func 68) #[] #[])] := by
  have hmm := @Go.run_makeMap_plain Try.prog
  have hw0 : (w.alloc (.map #[] 0)).heap[w.heap.size]? = some (.map #[] 0) := by
    show (w.heap.push (.map #[] 0))[w.heap.size]? = _
    exact Array.getElem?_push_size
  have h1 : (Instr.mapUpdate 74 (.map (some w.heap.size)) (.int .i64 2) (.func (.func 66) #[] #[])).run Try.prog (w.alloc (.map #[] 0)) = .ok () ((w.alloc (.map #[] 0)).putObj w.heap.size (.map #[{ key := .int .i64 2, val := .func (.func 66) #[] #[], born := 0 }] 1)) :=
    run_insert_new (P := Try.prog) (t := 74) (key := 3) (elem := 72) (kd := .i64) (by kernel_rfl) (by kernel_rfl) hw0 2 (.func (.func 66) #[] #[]) rfl
  have hlt := heap_lt hw0
  have hw1 := World.putObj_heap_same (o := .map #[{ key := .int .i64 2, val := .func (.func 66) #[] #[], born := 0 }] 1) hlt
  have hlt2 := heap_lt hw1
  have hw2 := World.putObj_heap_same (o := .map #[{ key := .int .i64 2, val := .func (.func 66) #[] #[], born := 0 }, { key := .int .i64 3, val := .func (.func 68) #[] #[], born := 1 }] 2) hlt2
  have hlt3 := heap_lt hw2
  have h2 : (Instr.mapUpdate 74 (.map (some w.heap.size)) (.int .i64 3) (.func (.func 68) #[] #[])).run Try.prog ((w.alloc (.map #[] 0)).putObj w.heap.size (.map #[{ key := .int .i64 2, val := .func (.func 66) #[] #[], born := 0 }] 1)) = .ok () (((w.alloc (.map #[] 0)).putObj w.heap.size (.map #[{ key := .int .i64 2, val := .func (.func 66) #[] #[], born := 0 }] 1)).putObj w.heap.size (.map #[{ key := .int .i64 2, val := .func (.func 66) #[] #[], born := 0 }, { key := .int .i64 3, val := .func (.func 68) #[] #[], born := 1 }] 2)) :=
    run_insert_new (P := Try.prog) (t := 74) (key := 3) (elem := 72) (kd := .i64) (by kernel_rfl) (by kernel_rfl) hw1 3 (.func (.func 68) #[] #[]) rfl
  go_enter Try.func42, Try.ntmps42
  go_wp2
  go_ret
  exact ⟨w.heap.size, rfl, Nat.le_refl _, hlt3, ⟨rfl, rfl, rfl, Nat.le_of_lt hlt3, fun k hk => by
    rw [World.putObj_heap_other (Nat.ne_of_lt hk), World.putObj_heap_other (Nat.ne_of_lt hk)]
    show (w.heap.push (.map #[] 0))[k]? = _
    rw [Array.getElem?_push, if_neg (Nat.ne_of_lt hk)]⟩, _, _, hw2, rfl⟩
theorem mapExt : PureOk Try.prog 42 [] [.mp .i64 [(2, 66), (3, 68)]] := by
  intro B w avs vs n hm hB hc
  have e : avs = [] := by
    have : mkArgs Try.prog 42 (fun i => .t ((List.getD [] i default : Tree))) = some [] := by kernel_rfl
    rw [this] at hm
    exact (Option.some.inj hm).symm
  subst e
  obtain rfl : vs = #[] := Array.eq_empty_of_size_eq_zero (by simpa using hc.1)
  refine (callsIn_wide (n := n)).2 (handlers_calls w) |>.mono ?_
  rintro e w' ⟨b, rfl, h1, h2, h3, es, clock, h4, h5⟩
  refine ⟨_, .t (.mp .i64 [(2, 66), (3, 68)]), rfl, by kernel_rfl, .t _ _ (.mp .i64 _ b es clock h2 ?_ h4 (by rw [h5]; rfl)), ⟨h3.os, h3.tape, h3.output, h3.size, h3.block⟩, fun h => ?_⟩
  · rintro (h | h)
    · exact Nat.lt_irrefl _ (Nat.lt_of_lt_of_le (hB b h) h1)
    · exact ex_empty h
  · have : scalarRes Try.prog 42 = false := by kernel_rfl
    rw [this] at h
    cases h
theorem repExt (s : ByteArray) (c : Int) (h0 : 0 ≤ c ∧ c ≤ 9223372036854775807 ∧ s.size * c.toNat ≤ 140737488355328) : PureOk Try.prog 58 [.str s, .int .i64 c] [.str ⟨(Go.Lib.repeatL s.data.toList c.toNat).toArray⟩] := by
  intro B w avs vs n hm hB hc
  have e : avs = [.t (.str s), .t (.int .i64 c)] := by
    have : mkArgs Try.prog 58 (fun i => .t ((List.getD [.str s, .int .i64 c] i default : Tree))) = some [.t (.str s), .t (.int .i64 c)] := by kernel_rfl
    rw [this] at hm
    exact (Option.some.inj hm).symm
  subst e
  obtain ⟨h1, h2, h3⟩ := h0
  obtain ⟨k, rfl⟩ : ∃ k : Nat, c = (k : Int) := ⟨c.toNat, by omega⟩
  simp only [Int.toNat_natCast] at h3 ⊢
  obtain rfl : vs = #[.string s, .int .i64 (k : Int)] := by
    obtain ⟨hl, hv⟩ := hc
    obtain ⟨l⟩ := vs
    match l, hl with
    | [u, v], _ =>
      have q0 := hv 0 _ rfl
      have q1 := hv 1 _ rfl
      simp only [Array.getD] at q0 q1
      have r0 : u = .string s := by
        cases q0 with | t _ _ q => cases q with | str => rfl
      have r1 : v = .int .i64 (k : Int) := by
        cases q1 with | t _ _ q => cases q with | int => rfl
      rw [r0, r1]
  refine (callsIn_wide (n := n)).2 (Try.strings_Repeat s k w (by omega) h3) |>.mono ?_
  rintro e w' ⟨rfl, h3⟩
  exact ⟨_, .t (.str _), rfl, by kernel_rfl, .t _ _ (.str _), ⟨h3.os, h3.tape, h3.output, h3.size, h3.block⟩, fun _ => rfl⟩
theorem extOk : ExtOk C := by
  intro g xs ys _ h
  unfold C at h
  simp only at h
  unfold extTab at h
  split at h
  · rename_i e
    subst e
    split at h
    · cases h; exact mapExt
    · cases h
  · split at h
    · rename_i e
      subst e
      split at h
      · split at h
        · rename_i hq
          cases h
          exact repExt _ _ hq
        · cases h
      · cases h
    · cases h
#print axioms extOk
end Ab
