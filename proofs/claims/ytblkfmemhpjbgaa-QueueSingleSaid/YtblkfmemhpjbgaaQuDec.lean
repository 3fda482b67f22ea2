/- Queue: the arguments, read. -/
import Derived.Test.YtblkfmemhpjbgaaQuA
import Derived.Test.YtblkfmemhpjbgaaAbZ
set_option linter.unusedVariables false
namespace Ab
open Go Go.Proofs
theorem uInt : C.P.underlying 3 = some (.int .i64) := by kernel_rfl
theorem uU8 : C.P.underlying 5 = some (.int .u8) := by kernel_rfl
theorem uU16 : C.P.underlying 38 = some (.int .u16) := by kernel_rfl
def okInt (n : Int) : Prop := -9223372036854775808 ≤ n ∧ n ≤ 9223372036854775807
theorem dec_int {d : Nat} {ts : List Tree} (h : Typed C.P d 3 ts) : ∃ n, ts = [tI n] ∧ okInt n := by
  obtain ⟨n, h1, h2⟩ := typed_int uInt h
  exact ⟨n, h1, wf64 h2⟩
theorem dec_u8 {d : Nat} {ts : List Tree} (h : Typed C.P d 5 ts) : ∃ n, ts = [.int .u8 n] ∧ (0 ≤ n ∧ n ≤ 255) := by
  obtain ⟨n, h1, h2⟩ := typed_int uU8 h
  exact ⟨n, h1, by simpa [Lit.wf, IntKind.min, IntKind.max, IntKind.signed, IntKind.bits] using h2⟩
theorem dec_u16 {d : Nat} {ts : List Tree} (h : Typed C.P d 38 ts) : ∃ n, ts = [.int .u16 n] ∧ (0 ≤ n ∧ n ≤ 65535) := by
  obtain ⟨n, h1, h2⟩ := typed_int uU16 h
  exact ⟨n, h1, by simpa [Lit.wf, IntKind.min, IntKind.max, IntKind.signed, IntKind.bits] using h2⟩
def Entry.ok (e : Entry) : Prop := okInt e.ticket ∧ okInt e.prio ∧ okInt e.exp ∧ okInt e.size
theorem dec_entry {d : Nat} {ts : List Tree} (h : Typed C.P (d + 1) 32 ts) : ∃ e : Entry, ts = e.enc ∧ e.ok := by
  have h1 := typed_fields (t := 32) [3, 3, 3, 3] (by kernel_rfl) h
  clear h
  obtain ⟨_, t1, rfl, x1, g1⟩ := typedL_cons h1
  obtain ⟨a1, rfl, k1⟩ := dec_int x1
  obtain ⟨_, t2, rfl, x2, g2⟩ := typedL_cons g1
  obtain ⟨a2, rfl, k2⟩ := dec_int x2
  obtain ⟨_, t3, rfl, x3, g3⟩ := typedL_cons g2
  obtain ⟨a3, rfl, k3⟩ := dec_int x3
  obtain ⟨_, t4, rfl, x4, g4⟩ := typedL_cons g3
  obtain ⟨a4, rfl, k4⟩ := dec_int x4
  obtain rfl := typedL_nil g4
  exact ⟨⟨a1, a2, a3, a4⟩, rfl, k1, k2, k3, k4⟩
structure Arr where
  at_ : Int
  e : Entry
  deriving DecidableEq
def Arr.enc (a : Arr) : List Tree := [tI a.at_, tI a.e.ticket, tI a.e.prio, tI a.e.exp, tI a.e.size]
def Arr.ok (a : Arr) : Prop := okInt a.at_ ∧ a.e.ok
theorem dec_arr {d : Nat} {ts : List Tree} (h : Typed C.P (d + 2) 34 ts) : ∃ a : Arr, ts = a.enc ∧ a.ok := by
  have h1 := typed_fields (t := 34) [3, 32] (by kernel_rfl) h
  clear h
  obtain ⟨_, t1, rfl, x1, g1⟩ := typedL_cons h1
  obtain ⟨a1, rfl, k1⟩ := dec_int x1
  obtain ⟨_, t2, rfl, x2, g2⟩ := typedL_cons g1
  obtain ⟨a2, rfl, k2⟩ := dec_entry x2
  obtain rfl := typedL_nil g2
  exact ⟨⟨a1, a2⟩, rfl, k1, k2⟩
theorem dec_entries {d : Nat} {ts : List Tree} (h : Typed C.P (d + 2) 37 ts) : ∃ l : List Entry, ts = [.sl 4 (l.map Entry.enc)] ∧ ∀ c ∈ l, c.ok := by
  obtain ⟨es, rfl, _, h2⟩ := typed_slice (t := 37) (e := 32) (by kernel_rfl) h
  obtain ⟨l, rfl, hl⟩ := decode_listP fun x hx => dec_entry (h2 x hx)
  exact ⟨l, by rw [show C.P.cellsOf 32 = 4 by kernel_rfl], hl⟩
theorem dec_arrs {d : Nat} {ts : List Tree} (h : Typed C.P (d + 3) 22 ts) : ∃ l : List Arr, ts = [.sl 5 (l.map Arr.enc)] ∧ ∀ c ∈ l, c.ok := by
  obtain ⟨es, rfl, _, h2⟩ := typed_slice (t := 22) (e := 34) (by kernel_rfl) h
  obtain ⟨l, rfl, hl⟩ := decode_listP fun x hx => dec_arr (h2 x hx)
  exact ⟨l, by rw [show C.P.cellsOf 34 = 5 by kernel_rfl], hl⟩
theorem dec_bytes {d : Nat} {ts : List Tree} (h : Typed C.P (d + 1) 52 ts) : ∃ l : List Int, ts = [.sl 1 (l.map fun n => [.int .u8 n])] ∧ (∀ c ∈ l, 0 ≤ c ∧ c ≤ 255) ∧ l.length ≤ maxLen := by
  obtain ⟨es, rfl, hl0, h2⟩ := typed_slice (t := 52) (e := 5) (by kernel_rfl) h
  obtain ⟨l, rfl, hl⟩ := decode_listP (enc := fun n => [Tree.int .u8 n]) (p := fun c => 0 ≤ c ∧ c ≤ 255) fun x hx => dec_u8 (h2 x hx)
  exact ⟨l, by rw [show C.P.cellsOf 5 = 1 by kernel_rfl], hl, by simpa using hl0⟩
theorem own : ownKnob Try.prog.godebug = none := by kernel_rfl
theorem extOk : ExtOk C := fun g xs ys _ h => by cases h
end Ab
