/- The two parts of Until are together the agenda, and Until for an earlier time is a beginning of Until for a later one. -/
import Derived.Test.YtglkblaagdoagaaAgE
import Derived.Test.YtglkblaagdoagaaAgDec
import Derived.Test.YtglkblaagdoagaaRows
import Derived.WalkKit
import Derived.ProofKit
import Derived.OpenShut
import Derived.JoinedCond
set_option linter.unusedVariables false

namespace Go.Proofs.Ytglkblaagdoagaa.agendaSplits
open Go Go.ChangeShapes Go.WideShapes Go.ChangeAt Go.RowKit Ab

theorem law (xs : List Tree) (h : TypedL (Typed Ab.C.P 4) [22, 3, 3] xs) : ∃ n, apure Ab.C n 6 xs = some [.bool true] := by
  obtain ⟨_, t1, rfl, x1, g1⟩ := typedL_cons h
  obtain ⟨l, rfl, hl⟩ := dec_events x1
  obtain ⟨_, t2, rfl, x2, g2⟩ := typedL_cons g1
  obtain ⟨t, rfl, ht⟩ := dec_int x2
  obtain ⟨_, t3, rfl, x3, g3⟩ := typedL_cons g2
  obtain ⟨u, rfl, hu⟩ := dec_int x3
  obtain rfl := typedL_nil g3
  obtain ⟨N, hN⟩ := law6 l t u
  exact ⟨N, hN N (Nat.le_refl _)⟩

set_option maxRecDepth 100000 in
theorem lifted (os : Os) (started : os.Started) (H : Type) (enc : TypeId × Value → H) :
    ReturnsInHanded {} Try.checked os 6 .any (Rows.agendaSplitsSpec.pre6 enc Try.prog Try.f6 Rows.agendaSplitsRow.domain false) (Rows.agendaSplitsSpec.post enc Try.prog Try.f6 false true false false) := by
  refine returnsInHanded_of_change (C := Try.checked) Ab.own started (by kernel_rfl) Try.func6
    (ChangeSpec.witness6 (enc := enc) (C := Try.checked) false ⟨#[], #[.slice none 0 0, .int .i64 0, .int .i64 0], []⟩ 8 (by kernel_rfl) (by kernel_rfl) (by kernel_rfl) (by kernel_rfl)) ?_
  intro W base args ds gs before hval hW _ _
  exact law_contract (C := Ab.C) Ab.mix (d := 4) (bt := 4) (by decide) Try.func6 rfl (by kernel_rfl) (by kernel_rfl) (by kernel_rfl) (by kernel_rfl)
    (fun H ds hl => by
      match ds, hl with
      | [_, _, _], _ => exact ⟨rfl, rfl, rfl⟩)
    law W base args ds gs before hval hW

theorem over : Rows.agendaSplitsRow.holds Try.pinned (OpenSpec.ofChange Rows.agendaSplitsSpec) :=
  OpenClaim.holds_of_wide 6 Try.f6 rfl rfl rfl rfl rfl rfl rfl ⟨rfl, rfl, rfl, rfl, rfl⟩ rfl rfl rfl rfl rfl (by kernel_rfl) Try.func6 (by kernel_rfl)
    (of_decide_eq_true (by kernel_rfl)) (by unfold Func.isWrapper; first | (rw [if_pos (by decide +kernel)]; kernel_rfl) | (rw [if_neg (by decide +kernel)]; exact ⟨rfl, rfl⟩))
    (fun os started H enc _ => lifted os started H enc)

theorem proved : Rows.AgendaSplitsSaid :=
  over
end Go.Proofs.Ytglkblaagdoagaa.agendaSplits
#print axioms Go.Proofs.Ytglkblaagdoagaa.agendaSplits.proved
