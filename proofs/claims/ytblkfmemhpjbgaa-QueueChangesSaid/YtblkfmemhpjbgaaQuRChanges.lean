/- The law QueueChanges of the given program returns true, without panic, for every list of entries, entry, time and ticket. -/
import Derived.Test.YtblkfmemhpjbgaaQuD
import Derived.Test.YtblkfmemhpjbgaaQuDec
import Derived.Test.YtblkfmemhpjbgaaRows
import Derived.WalkKit
import Derived.ProofKit
import Derived.OpenShut
import Derived.JoinedCond
set_option linter.unusedVariables false

namespace Go.Proofs.Ytblkfmemhpjbgaa.queueChanges
open Go Go.ChangeShapes Go.WideShapes Go.ChangeAt Go.RowKit Ab

theorem law (xs : List Tree) (h : TypedL (Typed Ab.C.P 4) [37, 32, 3, 3] xs) : ∃ n, apure Ab.C n 8 xs = some [.bool true] := by
  obtain ⟨_, t1, rfl, x1, g1⟩ := typedL_cons h
  obtain ⟨l, rfl, hl⟩ := dec_entries x1
  obtain ⟨_, t2, rfl, x2, g2⟩ := typedL_cons g1
  obtain ⟨x, rfl, hx⟩ := dec_entry x2
  obtain ⟨_, t3, rfl, x3, g3⟩ := typedL_cons g2
  obtain ⟨now, rfl, hnow⟩ := dec_int x3
  obtain ⟨_, t4, rfl, x4, g4⟩ := typedL_cons g3
  obtain ⟨ticket, rfl, hticket⟩ := dec_int x4
  obtain rfl := typedL_nil g4
  obtain ⟨N, hN⟩ := law8 l x now ticket
  exact ⟨N, hN N (Nat.le_refl _)⟩

set_option maxRecDepth 100000 in
theorem lifted (os : Os) (started : os.Started) (H : Type) (enc : TypeId × Value → H) :
    ReturnsInHanded {} Try.checked os 8 .any (Rows.queueChangesSpec.pre6 enc Try.prog Try.f8 Rows.queueChangesRow.domain false) (Rows.queueChangesSpec.post enc Try.prog Try.f8 false true false false) := by
  refine returnsInHanded_of_change (C := Try.checked) Ab.own started (by kernel_rfl) Try.func8
    (ChangeSpec.witness6 (enc := enc) (C := Try.checked) false ⟨#[], #[.slice none 0 0, .agg #[.int .i64 0, .int .i64 0, .int .i64 0, .int .i64 0], .int .i64 0, .int .i64 0], []⟩ 8 (by kernel_rfl) (by kernel_rfl) (by kernel_rfl) (by kernel_rfl)) ?_
  intro W base args ds gs before hval hW _ _
  exact law_contract (C := Ab.C) Ab.mix (d := 4) (bt := 4) (by decide) Try.func8 rfl (by kernel_rfl) (by kernel_rfl) (by kernel_rfl) (by kernel_rfl)
    (fun H ds hl => by
      match ds, hl with
      | [_, _, _, _], _ => exact ⟨rfl, rfl, rfl⟩)
    law W base args ds gs before hval hW

theorem over : Rows.queueChangesRow.holds Try.pinned (OpenSpec.ofChange Rows.queueChangesSpec) :=
  OpenClaim.holds_of_wide 8 Try.f8 rfl rfl rfl rfl rfl rfl rfl ⟨rfl, rfl, rfl, rfl, rfl⟩ rfl rfl rfl rfl rfl (by kernel_rfl) Try.func8 (by kernel_rfl)
    (of_decide_eq_true (by kernel_rfl)) (by unfold Func.isWrapper; first | (rw [if_pos (by decide +kernel)]; kernel_rfl) | (rw [if_neg (by decide +kernel)]; exact ⟨rfl, rfl⟩))
    (fun os started H enc _ => lifted os started H enc)

theorem proved : Rows.QueueChangesSaid :=
  over
end Go.Proofs.Ytblkfmemhpjbgaa.queueChanges
#print axioms Go.Proofs.Ytblkfmemhpjbgaa.queueChanges.proved
