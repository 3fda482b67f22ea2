/- Agenda: typed arguments, read. -/
import Derived.Test.YtglkblaagdoagaaAgA
import Derived.Test.YtglkblaagdoagaaAbZ
set_option linter.unusedVariables false
namespace Ab
open Go Go.Proofs

theorem cP : C.P = Try.prog := rfl
theorem uInt : C.P.underlying 3 = some (.int .i64) := by kernel_rfl
theorem dec_int {d : Nat} {ts : List Tree} (h : Typed C.P d 3 ts) : ∃ n, ts = [tI n] ∧ (-9223372036854775808 ≤ n ∧ n ≤ 9223372036854775807) := by
  obtain ⟨n, h1, h2⟩ := typed_int uInt h
  exact ⟨n, h1, wf64 h2⟩
def okInt (n : Int) : Prop := -9223372036854775808 ≤ n ∧ n ≤ 9223372036854775807
def Event.ok (c : Event) : Prop := okInt c.time ∧ okInt c.kind ∧ okInt c.number
theorem dec_event {d : Nat} {ts : List Tree} (h : Typed C.P (d + 1) 27 ts) : ∃ c : Event, ts = c.enc ∧ c.ok := by
  have h1 := typed_fields (t := 27) [3, 3, 3] (by kernel_rfl) h
  clear h
  obtain ⟨_, t1, rfl, x1, g1⟩ := typedL_cons h1
  obtain ⟨a1, rfl, k1⟩ := dec_int x1
  obtain ⟨_, t2, rfl, x2, g2⟩ := typedL_cons g1
  obtain ⟨a2, rfl, k2⟩ := dec_int x2
  obtain ⟨_, t3, rfl, x3, g3⟩ := typedL_cons g2
  obtain ⟨a3, rfl, k3⟩ := dec_int x3
  obtain rfl := typedL_nil g3
  exact ⟨⟨a1, a2, a3⟩, rfl, k1, k2, k3⟩
theorem dec_events {d : Nat} {ts : List Tree} (h : Typed C.P (d + 2) 22 ts) : ∃ l : List Event, ts = [.sl 3 (l.map Event.enc)] ∧ ∀ c ∈ l, c.ok := by
  obtain ⟨es, rfl, _, h2⟩ := typed_slice (t := 22) (e := 27) (by kernel_rfl) h
  obtain ⟨l, rfl, hl⟩ := decode_listP fun x hx => dec_event (h2 x hx)
  exact ⟨l, by rw [show C.P.cellsOf 27 = 3 by kernel_rfl], hl⟩
theorem uU8 : C.P.underlying 5 = some (.int .u8) := by kernel_rfl
theorem dec_u8 {d : Nat} {ts : List Tree} (h : Typed C.P d 5 ts) : ∃ n, ts = [.int .u8 n] ∧ (0 ≤ n ∧ n ≤ 255) := by
  obtain ⟨n, h1, h2⟩ := typed_int uU8 h
  exact ⟨n, h1, by simpa [Lit.wf, IntKind.min, IntKind.max, IntKind.signed, IntKind.bits] using h2⟩
theorem own : ownKnob Try.prog.godebug = none := by kernel_rfl
end Ab
