/- Receiver: the arguments, read. -/
import Derived.Test.YthgemjameiibpaaDoorReA
import Derived.Test.YthgemjameiibpaaDoorAbZ
set_option linter.unusedVariables false
set_option maxRecDepth 100000
namespace Ab
open Go Go.Proofs
theorem uInt : C.P.underlying 3 = some (.int .i64) := by kernel_rfl
theorem uB : C.P.underlying 4 = some .bool := by kernel_rfl
theorem uU8 : C.P.underlying 5 = some (.int .u8) := by kernel_rfl
theorem uStr : C.P.underlying 9 = some .string := by kernel_rfl
theorem dec_int {d : Nat} {ts : List Tree} (h : Typed C.P d 3 ts) : ∃ n, ts = [tI n] ∧ True := by
  obtain ⟨n, h1, h2⟩ := typed_int uInt h
  exact ⟨n, h1, trivial⟩
theorem dec_u8 {d : Nat} {ts : List Tree} (h : Typed C.P d 5 ts) : ∃ n : Nat, ts = [.int .u8 (n : Int)] ∧ n < 256 := by
  obtain ⟨n, h1, h2⟩ := typed_int uU8 h
  have h3 : 0 ≤ n ∧ n ≤ 255 := by simpa [Lit.wf, IntKind.min, IntKind.max, IntKind.signed, IntKind.bits] using h2
  exact ⟨n.toNat, by rw [h1, show ((n.toNat : Nat) : Int) = n by omega], by omega⟩
theorem dec_u16 {e d : Nat} (hu : C.P.underlying e = some (.int .u16)) {ts : List Tree} (h : Typed C.P d e ts) : ∃ n : Nat, ts = [.int .u16 (n : Int)] ∧ n < 65536 := by
  obtain ⟨n, h1, h2⟩ := typed_int hu h
  have h3 : 0 ≤ n ∧ n ≤ 65535 := by simpa [Lit.wf, IntKind.min, IntKind.max, IntKind.signed, IntKind.bits] using h2
  exact ⟨n.toNat, by rw [h1, show ((n.toNat : Nat) : Int) = n by omega], by omega⟩
theorem dec_bool {d : Nat} {ts : List Tree} (h : Typed C.P d 4 ts) : ∃ b, ts = [.bool b] ∧ True := by
  obtain ⟨b, h1⟩ := typed_bool uB h
  exact ⟨b, h1, trivial⟩
theorem dec_str {d : Nat} {ts : List Tree} (h : Typed C.P d 9 ts) : ∃ b : ByteArray, ts = [.str b] ∧ True := by
  obtain ⟨b, h1, _⟩ := typed_str uStr h
  exact ⟨b, h1, trivial⟩
theorem dec_span {d : Nat} {ts : List Tree} (h : Typed C.P (d + 1) 47 ts) : ∃ e : Span, ts = e.enc ∧ True := by
  have h1 := typed_fields (t := 47) [3, 3] (by kernel_rfl) h
  clear h
  obtain ⟨_, t1, rfl, x1, g1⟩ := typedL_cons h1
  obtain ⟨a1, rfl, k1⟩ := dec_int x1
  obtain ⟨_, t2, rfl, x2, g2⟩ := typedL_cons g1
  obtain ⟨a2, rfl, k2⟩ := dec_int x2
  obtain rfl := typedL_nil g2
  exact ⟨⟨a1, a2⟩, rfl, trivial⟩
theorem dec_spans {d : Nat} {ts : List Tree} (h : Typed C.P (d + 2) 22 ts) : ∃ l : List Span, ts = [.sl 2 (l.map Span.enc)] ∧ True := by
  obtain ⟨es, rfl, _, h2⟩ := typed_slice (t := 22) (e := 47) (by kernel_rfl) h
  obtain ⟨l, rfl, hl⟩ := decode_listP fun x hx => dec_span (h2 x hx)
  exact ⟨l, by rw [show C.P.cellsOf 47 = 2 by kernel_rfl], trivial⟩
theorem dec_rcv {d : Nat} {ts : List Tree} (h : Typed C.P (d + 3) 24 ts) : ∃ e : Rcv, ts = e.enc ∧ True := by
  have h1 := typed_fields (t := 24) [3, 3, 22, 9] (by kernel_rfl) h
  clear h
  obtain ⟨_, t1, rfl, x1, g1⟩ := typedL_cons h1
  obtain ⟨a1, rfl, k1⟩ := dec_int x1
  obtain ⟨_, t2, rfl, x2, g2⟩ := typedL_cons g1
  obtain ⟨a2, rfl, k2⟩ := dec_int x2
  obtain ⟨_, t3, rfl, x3, g3⟩ := typedL_cons g2
  obtain ⟨a3, rfl, k3⟩ := dec_spans x3
  obtain ⟨_, t4, rfl, x4, g4⟩ := typedL_cons g3
  obtain ⟨a4, rfl, k4⟩ := dec_str x4
  obtain rfl := typedL_nil g4
  exact ⟨⟨a1, a2, a3, a4⟩, rfl, trivial⟩
theorem dec_seg {d : Nat} {ts : List Tree} (h : Typed C.P (d + 3) 26 ts) : ∃ e : Seg, ts = e.enc ∧ True := by
  have h1 := typed_fields (t := 26) [3, 3, 3, 3, 3, 4, 9, 22] (by kernel_rfl) h
  clear h
  obtain ⟨_, t1, rfl, x1, g1⟩ := typedL_cons h1
  obtain ⟨a1, rfl, k1⟩ := dec_int x1
  obtain ⟨_, t2, rfl, x2, g2⟩ := typedL_cons g1
  obtain ⟨a2, rfl, k2⟩ := dec_int x2
  obtain ⟨_, t3, rfl, x3, g3⟩ := typedL_cons g2
  obtain ⟨a3, rfl, k3⟩ := dec_int x3
  obtain ⟨_, t4, rfl, x4, g4⟩ := typedL_cons g3
  obtain ⟨a4, rfl, k4⟩ := dec_int x4
  obtain ⟨_, t5, rfl, x5, g5⟩ := typedL_cons g4
  obtain ⟨a5, rfl, k5⟩ := dec_int x5
  obtain ⟨_, t6, rfl, x6, g6⟩ := typedL_cons g5
  obtain ⟨a6, rfl, k6⟩ := dec_bool x6
  obtain ⟨_, t7, rfl, x7, g7⟩ := typedL_cons g6
  obtain ⟨a7, rfl, k7⟩ := dec_str x7
  obtain ⟨_, t8, rfl, x8, g8⟩ := typedL_cons g7
  obtain ⟨a8, rfl, k8⟩ := dec_spans x8
  obtain rfl := typedL_nil g8
  exact ⟨⟨a1, a2, a3, a4, a5, a6, a7, a8⟩, rfl, trivial⟩
theorem dec_segs {d : Nat} {ts : List Tree} (h : Typed C.P (d + 4) 32 ts) : ∃ l : List Seg, ts = [.sl 8 (l.map Seg.enc)] ∧ True := by
  obtain ⟨es, rfl, _, h2⟩ := typed_slice (t := 32) (e := 26) (by kernel_rfl) h
  obtain ⟨l, rfl, hl⟩ := decode_listP fun x hx => dec_seg (h2 x hx)
  exact ⟨l, by rw [show C.P.cellsOf 26 = 8 by kernel_rfl], trivial⟩
def U16.enc (n : Nat) : List Tree := [.int .u16 (n : Int)]
def elemTy (P : Program) (t : TypeId) : TypeId := match P.underlying t with
  | some (.slice e) => e
  | _ => 0
theorem el42 : C.P.underlying 42 = some (.slice (elemTy C.P 42)) := by kernel_rfl
theorem uU16 : C.P.underlying (elemTy C.P 42) = some (.int .u16) := by kernel_rfl
theorem dec_u16s {d : Nat} {ts : List Tree} (h : Typed C.P (d + 2) 42 ts) : ∃ l : List Nat, ts = [.sl 1 (l.map U16.enc)] ∧ ∀ n ∈ l, n < 65536 := by
  obtain ⟨es, rfl, _, h2⟩ := typed_slice (t := 42) el42 h
  obtain ⟨l, rfl, hl⟩ := decode_listP (enc := U16.enc) fun x hx => dec_u16 uU16 (h2 x hx)
  exact ⟨l, by rw [show C.P.cellsOf (elemTy C.P 42) = 1 by kernel_rfl], hl⟩
theorem own : ownKnob Tryd.prog.godebug = none := by kernel_rfl
theorem extOk : ExtOk C := fun g xs ys _ h => by cases h
end Ab
