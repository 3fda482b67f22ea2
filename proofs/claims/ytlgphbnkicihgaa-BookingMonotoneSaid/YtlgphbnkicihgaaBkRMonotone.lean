/- With a later ready time, a greater size or more bookings Fit does not return an earlier time. -/
import Derived.Test.YtlgphbnkicihgaaBkO
import Derived.Test.YtlgphbnkicihgaaBkDec
import Derived.Test.YtlgphbnkicihgaaRows
import Derived.WalkKit
import Derived.ProofKit
import Derived.OpenShut
import Derived.JoinedCond
set_option linter.unusedVariables false

namespace Go.Proofs.Ytlgphbnkicihgaa.bookingMonotone
open Go Go.ChangeShapes Go.WideShapes Go.ChangeAt Go.RowKit Ab

theorem law (xs : List Tree) (h : TypedL (Typed Ab.C.P 4) [25, 26, 50, 3, 3, 5, 5] xs) : ∃ n, apure Ab.C n 7 xs = some [.bool true] := by
  obtain ⟨_, t1, rfl, x1, g1⟩ := typedL_cons h
  obtain ⟨q, cs, rfl, hq, hcs⟩ := dec_plan x1
  obtain ⟨_, t2, rfl, x2, g2⟩ := typedL_cons g1
  obtain ⟨l, rfl, hl⟩ := dec_bookings x2
  obtain ⟨_, t3, rfl, x3, g3⟩ := typedL_cons g2
  obtain ⟨b, rfl, hb⟩ := dec_booking x3
  obtain ⟨_, t4, rfl, x4, g4⟩ := typedL_cons g3
  obtain ⟨r, rfl, hr⟩ := dec_int x4
  obtain ⟨_, t5, rfl, x5, g5⟩ := typedL_cons g4
  obtain ⟨s, rfl, hs⟩ := dec_int x5
  obtain ⟨_, t6, rfl, x6, g6⟩ := typedL_cons g5
  obtain ⟨t, rfl, ht⟩ := dec_u8 x6
  obtain ⟨_, t7, rfl, x7, g7⟩ := typedL_cons g6
  obtain ⟨u, rfl, hu⟩ := dec_u8 x7
  obtain rfl := typedL_nil g7
  obtain ⟨N, hN⟩ := law7 q cs l b r s t u hr ht hu
  exact ⟨N, hN N (Nat.le_refl _)⟩

set_option maxRecDepth 100000 in
theorem lifted (os : Os) (started : os.Started) (H : Type) (enc : TypeId × Value → H) :
    ReturnsInHanded {} Try.checked os 7 .any (Rows.bookingMonotoneSpec.pre6 enc Try.prog Try.f7 Rows.bookingMonotoneRow.domain false) (Rows.bookingMonotoneSpec.post enc Try.prog Try.f7 false true false false) := by
  refine returnsInHanded_of_change (C := Try.checked) Ab.own started (by kernel_rfl) Try.func7
    (ChangeSpec.witness6 (enc := enc) (C := Try.checked) false ⟨#[], #[.agg #[.slice none 0 0, .slice none 0 0], .slice none 0 0, .agg #[.int .i64 0, .int .i64 0, .int .i64 0, .int .i64 0], .int .i64 0, .int .i64 0, .int .u8 0, .int .u8 0], []⟩ 8 (by kernel_rfl) (by kernel_rfl) (by kernel_rfl) (by kernel_rfl)) ?_
  intro W base args ds gs before hval hW _ _
  exact law_contract (C := Ab.C) Ab.mix (d := 4) (bt := 4) (by decide) Try.func7 rfl (by kernel_rfl) (by kernel_rfl) (by kernel_rfl) (by kernel_rfl)
    (fun H ds hl => by
      match ds, hl with
      | [_, _, _, _, _, _, _], _ => exact ⟨rfl, rfl, rfl⟩)
    law W base args ds gs before hval hW

theorem over : Rows.bookingMonotoneRow.holds Try.pinned (OpenSpec.ofChange Rows.bookingMonotoneSpec) :=
  OpenClaim.holds_of_wide 7 Try.f7 rfl rfl rfl rfl rfl rfl rfl ⟨rfl, rfl, rfl, rfl, rfl⟩ rfl rfl rfl rfl rfl (by kernel_rfl) Try.func7 (by kernel_rfl)
    (of_decide_eq_true (by kernel_rfl)) (by unfold Func.isWrapper; first | (rw [if_pos (by decide +kernel)]; kernel_rfl) | (rw [if_neg (by decide +kernel)]; exact ⟨rfl, rfl⟩))
    (fun os started H enc _ => lifted os started H enc)

theorem proved : Rows.BookingMonotoneSaid :=
  over
end Go.Proofs.Ytlgphbnkicihgaa.bookingMonotone
#print axioms Go.Proofs.Ytlgphbnkicihgaa.bookingMonotone.proved
