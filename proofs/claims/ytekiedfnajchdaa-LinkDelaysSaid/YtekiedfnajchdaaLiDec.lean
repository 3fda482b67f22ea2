/- Link: the arguments, read. -/
import Derived.Test.YtekiedfnajchdaaLiD
import Derived.Test.YtekiedfnajchdaaAbZ
set_option linter.unusedVariables false
namespace Ab
open Go Go.Proofs
theorem uI32 : C.P.underlying 21 = some (.int .i32) := by kernel_rfl
theorem uU32 : C.P.underlying 22 = some (.int .u32) := by kernel_rfl
theorem uU8 : C.P.underlying 5 = some (.int .u8) := by kernel_rfl
theorem uB : C.P.underlying 4 = some .bool := by kernel_rfl
theorem dec_i32 {d : Nat} {ts : List Tree} (h : Typed C.P d 21 ts) : ∃ n, ts = [.int .i32 n] ∧ (-2147483648 ≤ n ∧ n ≤ 2147483647) := by
  obtain ⟨n, h1, h2⟩ := typed_int uI32 h
  exact ⟨n, h1, by simpa [Lit.wf, IntKind.min, IntKind.max, IntKind.signed, IntKind.bits] using h2⟩
theorem dec_u32 {d : Nat} {ts : List Tree} (h : Typed C.P d 22 ts) : ∃ n, ts = [.int .u32 n] ∧ (0 ≤ n ∧ n < 4294967296) := by
  obtain ⟨n, h1, h2⟩ := typed_int uU32 h
  refine ⟨n, h1, ?_⟩
  have : 0 ≤ n ∧ n ≤ 4294967295 := by simpa [Lit.wf, IntKind.min, IntKind.max, IntKind.signed, IntKind.bits] using h2
  omega
theorem dec_u8 {d : Nat} {ts : List Tree} (h : Typed C.P d 5 ts) : ∃ n, ts = [.int .u8 n] ∧ (0 ≤ n ∧ n ≤ 255) := by
  obtain ⟨n, h1, h2⟩ := typed_int uU8 h
  exact ⟨n, h1, by simpa [Lit.wf, IntKind.min, IntKind.max, IntKind.signed, IntKind.bits] using h2⟩
theorem dec_bool {d : Nat} {ts : List Tree} (h : Typed C.P d 4 ts) : ∃ b, ts = [.bool b] ∧ True := by
  obtain ⟨b, h1⟩ := typed_bool uB h
  exact ⟨b, h1, trivial⟩
theorem dec_step {d : Nat} {ts : List Tree} (h : Typed C.P (d + 1) 45 ts) : ∃ x : Stp, ts = x.enc ∧ x.ok := by
  have h1 := typed_fields (t := 45) [5, 5] (by kernel_rfl) h
  clear h
  obtain ⟨_, t1, rfl, x1, g1⟩ := typedL_cons h1
  obtain ⟨a1, rfl, k1⟩ := dec_u8 x1
  obtain ⟨_, t2, rfl, x2, g2⟩ := typedL_cons g1
  obtain ⟨a2, rfl, k2⟩ := dec_u8 x2
  obtain rfl := typedL_nil g2
  exact ⟨⟨a1, a2⟩, rfl, k1, k2⟩
theorem dec_steps {d : Nat} {ts : List Tree} (h : Typed C.P (d + 2) 31 ts) : ∃ l : List Stp, ts = [.sl 2 (l.map Stp.enc)] ∧ ∀ c ∈ l, c.ok := by
  obtain ⟨es, rfl, _, h2⟩ := typed_slice (t := 31) (e := 45) (by kernel_rfl) h
  obtain ⟨l, rfl, hl⟩ := decode_listP fun x hx => dec_step (h2 x hx)
  exact ⟨l, by rw [show C.P.cellsOf 45 = 2 by kernel_rfl], hl⟩
theorem own : ownKnob Try.prog.godebug = none := by kernel_rfl
end Ab
