/- Booking: typed arguments, read. -/
import Derived.Test.YtlgphbnkicihgaaBkA
import Derived.Test.YtlgphbnkicihgaaAbZ
set_option linter.unusedVariables false
namespace Ab
open Go Go.Proofs

theorem cP : C.P = Try.prog := rfl
theorem uInt : C.P.underlying 3 = some (.int .i64) := by kernel_rfl
theorem dec_int {d : Nat} {ts : List Tree} (h : Typed C.P d 3 ts) : ∃ n, ts = [tI n] ∧ (-9223372036854775808 ≤ n ∧ n ≤ 9223372036854775807) := by
  obtain ⟨n, h1, h2⟩ := typed_int uInt h
  exact ⟨n, h1, wf64 h2⟩
def okInt (n : Int) : Prop := -9223372036854775808 ≤ n ∧ n ≤ 9223372036854775807
def Contact.ok (c : Contact) : Prop := okInt c.frm ∧ okInt c.to ∧ okInt c.start ∧ okInt c.stop ∧ okInt c.rate ∧ okInt c.rng ∧ okInt c.loss
def Booking.ok (c : Booking) : Prop := okInt c.contact ∧ okInt c.beg ∧ okInt c.stop ∧ okInt c.ticket
theorem dec_contact {d : Nat} {ts : List Tree} (h : Typed C.P (d + 1) 44 ts) : ∃ c : Contact, ts = c.enc ∧ c.ok := by
  have h1 := typed_fields (t := 44) [3, 3, 3, 3, 3, 3, 3] (by kernel_rfl) h
  clear h
  obtain ⟨_, t1, rfl, x1, g1⟩ := typedL_cons h1
  obtain ⟨a1, rfl, k1⟩ := dec_int x1
  obtain ⟨_, t2, rfl, x2, g2⟩ := typedL_cons g1
  obtain ⟨a2, rfl, k2⟩ := dec_int x2
  obtain ⟨_, t3, rfl, x3, g3⟩ := typedL_cons g2
  obtain ⟨a3, rfl, k3⟩ := dec_int x3
  obtain ⟨_, t4, rfl, x4, g4⟩ := typedL_cons g3
  obtain ⟨a4, rfl, k4⟩ := dec_int x4
  obtain ⟨_, t5, rfl, x5, g5⟩ := typedL_cons g4
  obtain ⟨a5, rfl, k5⟩ := dec_int x5
  obtain ⟨_, t6, rfl, x6, g6⟩ := typedL_cons g5
  obtain ⟨a6, rfl, k6⟩ := dec_int x6
  obtain ⟨_, t7, rfl, x7, g7⟩ := typedL_cons g6
  obtain ⟨a7, rfl, k7⟩ := dec_int x7
  obtain rfl := typedL_nil g7
  exact ⟨⟨a1, a2, a3, a4, a5, a6, a7⟩, rfl, k1, k2, k3, k4, k5, k6, k7⟩
theorem dec_booking {d : Nat} {ts : List Tree} (h : Typed C.P (d + 1) 50 ts) : ∃ c : Booking, ts = c.enc ∧ c.ok := by
  have h1 := typed_fields (t := 50) [3, 3, 3, 3] (by kernel_rfl) h
  clear h
  obtain ⟨_, t1, rfl, x1, g1⟩ := typedL_cons h1
  obtain ⟨a1, rfl, k1⟩ := dec_int x1
  obtain ⟨_, t2, rfl, x2, g2⟩ := typedL_cons g1
  obtain ⟨a2, rfl, k2⟩ := dec_int x2
  obtain ⟨_, t3, rfl, x3, g3⟩ := typedL_cons g2
  obtain ⟨a3, rfl, k3⟩ := dec_int x3
  obtain ⟨_, t4, rfl, x4, g4⟩ := typedL_cons g3
  obtain ⟨a4, rfl, k4⟩ := dec_int x4
  obtain rfl := typedL_nil g4
  exact ⟨⟨a1, a2, a3, a4⟩, rfl, k1, k2, k3, k4⟩
theorem dec_contacts {d : Nat} {ts : List Tree} (h : Typed C.P (d + 2) 23 ts) : ∃ l : List Contact, ts = [.sl 7 (l.map Contact.enc)] ∧ ∀ c ∈ l, c.ok := by
  obtain ⟨es, rfl, _, h2⟩ := typed_slice (t := 23) (e := 44) (by kernel_rfl) h
  obtain ⟨l, rfl, hl⟩ := decode_listP fun x hx => dec_contact (h2 x hx)
  exact ⟨l, by rw [show C.P.cellsOf 44 = 7 by kernel_rfl], hl⟩
theorem dec_bookings {d : Nat} {ts : List Tree} (h : Typed C.P (d + 2) 26 ts) : ∃ l : List Booking, ts = [.sl 4 (l.map Booking.enc)] ∧ ∀ c ∈ l, c.ok := by
  obtain ⟨es, rfl, _, h2⟩ := typed_slice (t := 26) (e := 50) (by kernel_rfl) h
  obtain ⟨l, rfl, hl⟩ := decode_listP fun x hx => dec_booking (h2 x hx)
  exact ⟨l, by rw [show C.P.cellsOf 50 = 4 by kernel_rfl], hl⟩
theorem dec_ints {d : Nat} {ts : List Tree} (h : Typed C.P (d + 2) 22 ts) : ∃ l : List Int, ts = [.sl 1 (l.map encI)] ∧ ∀ c ∈ l, okInt c := by
  obtain ⟨es, rfl, _, h2⟩ := typed_slice (t := 22) (e := 3) (by kernel_rfl) h
  obtain ⟨l, rfl, hl⟩ := decode_listP (enc := encI) (p := okInt) fun x hx => dec_int (h2 x hx)
  exact ⟨l, by rw [show C.P.cellsOf 3 = 1 by kernel_rfl], hl⟩
theorem dec_plan {d : Nat} {ts : List Tree} (h : Typed C.P (d + 3) 25 ts) : ∃ (q : List Int) (cs : List Contact), ts = [.sl 1 (q.map encI), .sl 7 (cs.map Contact.enc)] ∧ (∀ c ∈ q, okInt c) ∧ ∀ c ∈ cs, c.ok := by
  have h1 := typed_fields (t := 25) [22, 23] (by kernel_rfl) h
  clear h
  obtain ⟨_, t1, rfl, x1, g1⟩ := typedL_cons h1
  obtain ⟨a1, rfl, k1⟩ := dec_ints x1
  obtain ⟨_, t2, rfl, x2, g2⟩ := typedL_cons g1
  obtain ⟨a2, rfl, k2⟩ := dec_contacts x2
  obtain rfl := typedL_nil g2
  exact ⟨a1, a2, rfl, k1, k2⟩
theorem uU8 : C.P.underlying 5 = some (.int .u8) := by kernel_rfl
theorem dec_u8 {d : Nat} {ts : List Tree} (h : Typed C.P d 5 ts) : ∃ n, ts = [.int .u8 n] ∧ (0 ≤ n ∧ n ≤ 255) := by
  obtain ⟨n, h1, h2⟩ := typed_int uU8 h
  exact ⟨n, h1, by simpa [Lit.wf, IntKind.min, IntKind.max, IntKind.signed, IntKind.bits] using h2⟩
theorem own : ownKnob Try.prog.godebug = none := by kernel_rfl
end Ab

