/- Sender: the arguments, read. -/
import Derived.Test.YtdgkjmcggiihgaaSeA
import Derived.Test.YtdgkjmcggiihgaaAbZ
set_option linter.unusedVariables false
set_option maxRecDepth 100000
namespace Ab
open Go Go.Proofs
theorem uInt : C.P.underlying 3 = some (.int .i64) := by kernel_rfl
theorem uB : C.P.underlying 4 = some .bool := by kernel_rfl
theorem uStr : C.P.underlying 9 = some .string := by kernel_rfl
theorem dec_int {d : Nat} {ts : List Tree} (h : Typed C.P d 3 ts) : ∃ n, ts = [tI n] ∧ True := by
  obtain ⟨n, h1, h2⟩ := typed_int uInt h
  exact ⟨n, h1, trivial⟩
theorem dec_bool {d : Nat} {ts : List Tree} (h : Typed C.P d 4 ts) : ∃ b, ts = [.bool b] ∧ True := by
  obtain ⟨b, h1⟩ := typed_bool uB h
  exact ⟨b, h1, trivial⟩
theorem dec_str {d : Nat} {ts : List Tree} (h : Typed C.P d 9 ts) : ∃ b : ByteArray, ts = [.str b] ∧ True := by
  obtain ⟨b, h1, _⟩ := typed_str uStr h
  exact ⟨b, h1, trivial⟩
theorem dec_span {d : Nat} {ts : List Tree} (h : Typed C.P (d + 1) 43 ts) : ∃ e : Span, ts = e.enc ∧ True := by
  have h1 := typed_fields (t := 43) [3, 3] (by kernel_rfl) h
  clear h
  obtain ⟨_, t1, rfl, x1, g1⟩ := typedL_cons h1
  obtain ⟨a1, rfl, k1⟩ := dec_int x1
  obtain ⟨_, t2, rfl, x2, g2⟩ := typedL_cons g1
  obtain ⟨a2, rfl, k2⟩ := dec_int x2
  obtain rfl := typedL_nil g2
  exact ⟨⟨a1, a2⟩, rfl, trivial⟩
theorem dec_spans {d : Nat} {ts : List Tree} (h : Typed C.P (d + 2) 25 ts) : ∃ l : List Span, ts = [.sl 2 (l.map Span.enc)] ∧ True := by
  obtain ⟨es, rfl, _, h2⟩ := typed_slice (t := 25) (e := 43) (by kernel_rfl) h
  obtain ⟨l, rfl, hl⟩ := decode_listP fun x hx => dec_span (h2 x hx)
  exact ⟨l, by rw [show C.P.cellsOf 43 = 2 by kernel_rfl], trivial⟩
theorem dec_con {d : Nat} {ts : List Tree} (h : Typed C.P (d + 1) 23 ts) : ∃ e : Con, ts = e.enc ∧ True := by
  have h1 := typed_fields (t := 23) [3, 3, 3, 3, 3, 3, 3] (by kernel_rfl) h
  clear h
  obtain ⟨_, t1, rfl, x1, g1⟩ := typedL_cons h1
  obtain ⟨a1, rfl, k1⟩ := dec_int x1
  obtain ⟨_, t2, rfl, x2, g2⟩ := typedL_cons g1
  obtain ⟨a2, rfl, k2⟩ := dec_int x2
  obtain ⟨_, t3, rfl, x3, g3⟩ := typedL_cons g2
  obtain ⟨a3, rfl, k3⟩ := dec_int x3
  obtain ⟨_, t4, rfl, x4, g4⟩ := typedL_cons g3
  obtain ⟨a4, rfl, k4⟩ := dec_int x4
  obtain ⟨_, t5, rfl, x5, g5⟩ := typedL_cons g4
  obtain ⟨a5, rfl, k5⟩ := dec_int x5
  obtain ⟨_, t6, rfl, x6, g6⟩ := typedL_cons g5
  obtain ⟨a6, rfl, k6⟩ := dec_int x6
  obtain ⟨_, t7, rfl, x7, g7⟩ := typedL_cons g6
  obtain ⟨a7, rfl, k7⟩ := dec_int x7
  obtain rfl := typedL_nil g7
  exact ⟨⟨a1, a2, a3, a4, a5, a6, a7⟩, rfl, trivial⟩
theorem dec_seg {d : Nat} {ts : List Tree} (h : Typed C.P (d + 3) 36 ts) : ∃ e : Seg, ts = e.enc ∧ True := by
  have h1 := typed_fields (t := 36) [3, 3, 3, 3, 3, 4, 9, 25] (by kernel_rfl) h
  clear h
  obtain ⟨_, t1, rfl, x1, g1⟩ := typedL_cons h1
  obtain ⟨a1, rfl, k1⟩ := dec_int x1
  obtain ⟨_, t2, rfl, x2, g2⟩ := typedL_cons g1
  obtain ⟨a2, rfl, k2⟩ := dec_int x2
  obtain ⟨_, t3, rfl, x3, g3⟩ := typedL_cons g2
  obtain ⟨a3, rfl, k3⟩ := dec_int x3
  obtain ⟨_, t4, rfl, x4, g4⟩ := typedL_cons g3
  obtain ⟨a4, rfl, k4⟩ := dec_int x4
  obtain ⟨_, t5, rfl, x5, g5⟩ := typedL_cons g4
  obtain ⟨a5, rfl, k5⟩ := dec_int x5
  obtain ⟨_, t6, rfl, x6, g6⟩ := typedL_cons g5
  obtain ⟨a6, rfl, k6⟩ := dec_bool x6
  obtain ⟨_, t7, rfl, x7, g7⟩ := typedL_cons g6
  obtain ⟨a7, rfl, k7⟩ := dec_str x7
  obtain ⟨_, t8, rfl, x8, g8⟩ := typedL_cons g7
  obtain ⟨a8, rfl, k8⟩ := dec_spans x8
  obtain rfl := typedL_nil g8
  exact ⟨⟨a1, a2, a3, a4, a5, a6, a7, a8⟩, rfl, trivial⟩
theorem dec_snd {d : Nat} {ts : List Tree} (h : Typed C.P (d + 3) 27 ts) : ∃ e : Snd, ts = e.enc ∧ True := by
  have h1 := typed_fields (t := 27) [23, 3, 9, 3, 3, 3, 25, 3, 3] (by kernel_rfl) h
  clear h
  obtain ⟨_, t1, rfl, x1, g1⟩ := typedL_cons h1
  obtain ⟨a1, rfl, k1⟩ := dec_con x1
  obtain ⟨_, t2, rfl, x2, g2⟩ := typedL_cons g1
  obtain ⟨a2, rfl, k2⟩ := dec_int x2
  obtain ⟨_, t3, rfl, x3, g3⟩ := typedL_cons g2
  obtain ⟨a3, rfl, k3⟩ := dec_str x3
  obtain ⟨_, t4, rfl, x4, g4⟩ := typedL_cons g3
  obtain ⟨a4, rfl, k4⟩ := dec_int x4
  obtain ⟨_, t5, rfl, x5, g5⟩ := typedL_cons g4
  obtain ⟨a5, rfl, k5⟩ := dec_int x5
  obtain ⟨_, t6, rfl, x6, g6⟩ := typedL_cons g5
  obtain ⟨a6, rfl, k6⟩ := dec_int x6
  obtain ⟨_, t7, rfl, x7, g7⟩ := typedL_cons g6
  obtain ⟨a7, rfl, k7⟩ := dec_spans x7
  obtain ⟨_, t8, rfl, x8, g8⟩ := typedL_cons g7
  obtain ⟨a8, rfl, k8⟩ := dec_int x8
  obtain ⟨_, t9, rfl, x9, g9⟩ := typedL_cons g8
  obtain ⟨a9, rfl, k9⟩ := dec_int x9
  obtain rfl := typedL_nil g9
  exact ⟨⟨a1, a2, a3, a4, a5, a6, a7, a8, a9⟩, rfl, trivial⟩
theorem own : ownKnob Try.prog.godebug = none := by kernel_rfl
end Ab
